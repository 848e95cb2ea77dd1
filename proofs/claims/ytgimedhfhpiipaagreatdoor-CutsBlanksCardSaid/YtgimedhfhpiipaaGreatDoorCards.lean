/-
  DERIVED. GIVEN WITH THE SEED: THE CARDS: each row of YtgimedhfhpiipaaGreatDoorRows.lean that lists a variable, with what it lists TIED to the program's text (the seventh form; the later family's looks); each row that meets fmt, with fmt's text TOLD by the authors' own Lean function (tested against real Go, not proved from fmt's source: count such statements apart). THE CARD IS WHAT COUNTS. Prove the row's statement (the work); the ties are given (YtgimedhfhpiipaaGreatDoorTie.lean); close each card by the builder's one call (the guide's Derived/Test/ToyasCard.lean, 'card_holds'). Laid BY PROGRAM, IN A SANDBOX (cutbox-door.mjs). By AI agents, Wed Nov 11 2026. No macro, syntax, notation, axiom, sorry.
-/
import Derived.Test.YtgimedhfhpiipaaGreatDoorRows
import GoSem.ClaimSeven
namespace Go.Proofs.YtgimedhfhpiipaaGreatDoor
namespace Rows

/-- THE TIED CARD OF 'dailieslaw19.CutsNames'. -/
def cutsNamesCard : Claim7 := { stood := { row := cutsNamesRow, standIns := [], harness := (true, "3d366129652a44dd65d93bc8360d85731a3bb48f04bafd3337f6a3d5681b82e5"), looks := true }, kinds := [], alts := [], laidByText := true, laidKinds := [.data, .data, .data, .data, .handle, .sentinel, .sentinel, .data, .pinned], laidTests := true, laidLooks := .later }
def CutsNamesCardSaid : Prop := Claim7.holds Tryz.pinned (.plain (OpenSpec.ofChange cutsNamesSpec)) cutsNamesCard

/-- THE TIED CARD OF 'dailieslaw19.CutsParses'. -/
def cutsParsesCard : Claim7 := { stood := { row := cutsParsesRow, standIns := [], harness := (true, "3d366129652a44dd65d93bc8360d85731a3bb48f04bafd3337f6a3d5681b82e5"), looks := true }, kinds := [], alts := [], laidByText := true, laidKinds := [.data, .data, .data, .data, .handle, .sentinel, .sentinel, .data, .pinned], laidTests := true, laidLooks := .later }
def CutsParsesCardSaid : Prop := Claim7.holds Tryz.pinned (.plain (OpenSpec.ofChange cutsParsesSpec)) cutsParsesCard

/-- THE TIED CARD OF 'dailieslaw19.CutsBlanks'. -/
def cutsBlanksCard : Claim7 := { stood := { row := cutsBlanksRow, standIns := [], harness := (true, "3d366129652a44dd65d93bc8360d85731a3bb48f04bafd3337f6a3d5681b82e5"), looks := true }, kinds := [], alts := [], laidByText := true, laidKinds := [.data, .data, .data, .data, .handle, .sentinel, .sentinel, .data, .pinned], laidTests := true, laidLooks := .later }
def CutsBlanksCardSaid : Prop := Claim7.holds Tryz.pinned (.plain (OpenSpec.ofChange cutsBlanksSpec)) cutsBlanksCard

/-- THE TIED CARD OF 'dailieslaw19.CutsLengths'. -/
def cutsLengthsCard : Claim7 := { stood := { row := cutsLengthsRow, standIns := [], harness := (true, "3d366129652a44dd65d93bc8360d85731a3bb48f04bafd3337f6a3d5681b82e5"), looks := true }, kinds := [], alts := [], laidByText := true, laidKinds := [.data, .data, .data, .data, .handle, .sentinel, .sentinel, .data, .pinned], laidTests := true, laidLooks := .later }
def CutsLengthsCardSaid : Prop := Claim7.holds Tryz.pinned (.plain (OpenSpec.ofChange cutsLengthsSpec)) cutsLengthsCard

/-- THE TIED CARD OF 'dailieslaw19.CutsBack'. -/
def cutsBackCard : Claim7 := { stood := { row := cutsBackRow, standIns := [], harness := (true, "3d366129652a44dd65d93bc8360d85731a3bb48f04bafd3337f6a3d5681b82e5"), looks := true }, kinds := [], alts := [], laidByText := true, laidKinds := [.data, .data, .data, .data, .handle, .sentinel, .sentinel, .data, .pinned], laidTests := true, laidLooks := .later }
def CutsBackCardSaid : Prop := Claim7.holds Tryz.pinned (.plain (OpenSpec.ofChange cutsBackSpec)) cutsBackCard

/-- THE SECOND FORM's CARD OF 'dailieslaw19.CutsNames'. -/
def cutsNamesUptoCard : Claim7 := { stood := { row := cutsNamesUptoRow, standIns := [], harness := (true, "3d366129652a44dd65d93bc8360d85731a3bb48f04bafd3337f6a3d5681b82e5"), looks := true }, kinds := [], alts := [], laidByText := true, laidKinds := [.data, .data, .data, .data, .handle, .sentinel, .sentinel, .data, .pinned], laidTests := true, laidLooks := .later }
def CutsNamesUptoCardSaid : Prop := Claim7.holds Tryz.pinned (.plain (OpenSpec.upto cutsNamesSpec)) cutsNamesUptoCard

/-- THE SECOND FORM's CARD OF 'dailieslaw19.CutsParses'. -/
def cutsParsesUptoCard : Claim7 := { stood := { row := cutsParsesUptoRow, standIns := [], harness := (true, "3d366129652a44dd65d93bc8360d85731a3bb48f04bafd3337f6a3d5681b82e5"), looks := true }, kinds := [], alts := [], laidByText := true, laidKinds := [.data, .data, .data, .data, .handle, .sentinel, .sentinel, .data, .pinned], laidTests := true, laidLooks := .later }
def CutsParsesUptoCardSaid : Prop := Claim7.holds Tryz.pinned (.plain (OpenSpec.upto cutsParsesSpec)) cutsParsesUptoCard

/-- THE SECOND FORM's CARD OF 'dailieslaw19.CutsBlanks'. -/
def cutsBlanksUptoCard : Claim7 := { stood := { row := cutsBlanksUptoRow, standIns := [], harness := (true, "3d366129652a44dd65d93bc8360d85731a3bb48f04bafd3337f6a3d5681b82e5"), looks := true }, kinds := [], alts := [], laidByText := true, laidKinds := [.data, .data, .data, .data, .handle, .sentinel, .sentinel, .data, .pinned], laidTests := true, laidLooks := .later }
def CutsBlanksUptoCardSaid : Prop := Claim7.holds Tryz.pinned (.plain (OpenSpec.upto cutsBlanksSpec)) cutsBlanksUptoCard

/-- THE SECOND FORM's CARD OF 'dailieslaw19.CutsLengths'. -/
def cutsLengthsUptoCard : Claim7 := { stood := { row := cutsLengthsUptoRow, standIns := [], harness := (true, "3d366129652a44dd65d93bc8360d85731a3bb48f04bafd3337f6a3d5681b82e5"), looks := true }, kinds := [], alts := [], laidByText := true, laidKinds := [.data, .data, .data, .data, .handle, .sentinel, .sentinel, .data, .pinned], laidTests := true, laidLooks := .later }
def CutsLengthsUptoCardSaid : Prop := Claim7.holds Tryz.pinned (.plain (OpenSpec.upto cutsLengthsSpec)) cutsLengthsUptoCard

/-- THE SECOND FORM's CARD OF 'dailieslaw19.CutsBack'. -/
def cutsBackUptoCard : Claim7 := { stood := { row := cutsBackUptoRow, standIns := [], harness := (true, "3d366129652a44dd65d93bc8360d85731a3bb48f04bafd3337f6a3d5681b82e5"), looks := true }, kinds := [], alts := [], laidByText := true, laidKinds := [.data, .data, .data, .data, .handle, .sentinel, .sentinel, .data, .pinned], laidTests := true, laidLooks := .later }
def CutsBackUptoCardSaid : Prop := Claim7.holds Tryz.pinned (.plain (OpenSpec.upto cutsBackSpec)) cutsBackUptoCard
end Rows
end Go.Proofs.YtgimedhfhpiipaaGreatDoor
