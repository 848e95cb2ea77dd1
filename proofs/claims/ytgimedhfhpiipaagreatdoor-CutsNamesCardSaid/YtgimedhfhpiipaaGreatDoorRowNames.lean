/-
  CutsNames returns true; the card. Condition: the row's own (the listed variables hold what the program's text lays).
-/
import Derived.Test.YtgimedhfhpiipaaGreatDoorRowWorld
import Derived.Test.YtgimedhfhpiipaaGreatDoorAlive
import Derived.Test.YtgimedhfhpiipaaGreatDoorCards
import Derived.Test.YtgimedhfhpiipaaGreatDoorTie
namespace Go.Proofs.Cuts
open Go.ChangeShapes Go.WideShapes Go.ChangeAt Go.RowKit Go.Proofs.YtgimedhfhpiipaaGreatDoor

theorem names_any (w : World) (hL : Laid w) : Calls Tryz.prog 3 #[] w fun e w' => e = .returned (.bool true) ∧ Gr w w' := by
  go_enter Tryz.func3, Tryz.ntmps3
  go_wp2_with fail
  refine (alive_any _ hL).mono ?_
  rintro e w1 ⟨rfl, hg⟩
  have HG := Lib.hid hg
  clear hg
  go_wp2
  go_ret
  exact ⟨rfl, HG.out⟩

theorem names_contract (H : Type) (enc : TypeId × Value → H) (W : World) (args : Array Value) (ds gs : List (DataW H)) (before : List MemPlace)
    (hW : DataW.Whole enc Tryz.prog Tryz.f3.params.toList Rows.cutsNamesSpec.vars false W args.toList ds gs before) (hL : Laid W) :
    Calls Tryz.prog 3 args W fun e W' => ∃ v, e = .returned v ∧ Rows.cutsNamesSpec.post enc Tryz.prog Tryz.f3 false true false false W args v W' := by
  have hW' := hW
  obtain ⟨p, q, hA0, hV, rfl, hfz, hnd⟩ := hW
  have hA : DataW.TrodAll enc Tryz.prog W 0 (fun _ => true) true Tryz.f3.params.toList args.toList ds p := hA0
  rw [Tryz.params3] at hA
  obtain ⟨hargs, rfl, rfl⟩ := trodAll_none hA
  obtain rfl : args = #[] := by cases args; simp_all
  obtain ⟨rfl, rfl⟩ := trodVars_none hV
  clear hA0
  refine (names_any W hL).mono fun e W' ⟨he, bel⟩ => ?_
  subst he
  exact ⟨_, rfl, _, _, _, [], _, [], hW', trodAll_mk1 (shut_bool Tryz.underlying4 _), trodAll_mk0, rfl, bel.below.frame _, fun h => by cases h⟩

theorem names_reads (os : Os) {H : Type} (enc : TypeId × Value → H) : ∃ places, DataW.whole enc Tryz.prog ((laidWorld os).forCall (fun _ _ => 0) ⟨#[], #[], []⟩).memory Tryz.f3.params.toList Rows.cutsNamesSpec.vars false (#[] : Array Value).toList 8 = some ([], [], places) :=
  ⟨[], by kernel_rfl⟩
set_option maxRecDepth 100000 in
theorem names_lifted (os : Os) (started : os.Started) (H : Type) (enc : TypeId × Value → H) (F : Stop.Interp) :
    ReturnsInHanded {} Tryz.checked os 3 .any ((OpenSpec.ofChange Rows.cutsNamesSpec).preRow enc Tryz.prog Tryz.f3 Rows.cutsNamesRow.domain false Rows.cutsNamesRow.laid) (((OpenSpec.ofChange Rows.cutsNamesSpec).at F).post enc Tryz.prog Tryz.f3 false true false false) := by
  obtain ⟨places, hx⟩ := names_reads os enc
  refine returnsInHanded_of_row (C := Tryz.checked) (s := OpenSpec.ofChange Rows.cutsNamesSpec) own started (by kernel_rfl) Tryz.func3
    (witness_row_atRef (enc := enc) (C := Tryz.checked) false (laidWorld os) #[] rfl (world_vars os _) (world_rest os _) (by kernel_rfl)
      (OpenSpec.preRow_of_cond 8 hx (by kernel_rfl) (fun k hk => by cases hk) (by kernel_rfl) (laid_met os _))) ?_
  intro W base args ds gs before hval hW _ _ _ hL hS _
  exact names_contract H enc W args ds gs before hW (of_laid hL (size_of_shaped hS))
end Go.Proofs.Cuts
namespace Go.Proofs.YtgimedhfhpiipaaGreatDoor
open Go Go.Proofs.Cuts
theorem cutsNames_said : Rows.CutsNamesSaid :=
  OpenClaim.holds_of_cond 3 Tryz.f3 rfl rfl rfl rfl rfl rfl rfl ⟨rfl, rfl, rfl, rfl, rfl⟩ rfl rfl rfl rfl rfl (by kernel_rfl) Tryz.func3 (by kernel_rfl)
    (of_decide_eq_true (by kernel_rfl)) (by unfold Func.isWrapper; first | (rw [if_pos (by decide +kernel)]; kernel_rfl) | (rw [if_neg (by decide +kernel)]; exact ⟨rfl, rfl⟩))
    (fun os started H enc _ F => by rw [OpenClaim.pre_eq_preRow]; exact names_lifted os started H enc F)
/-- No parameter wants a stand-in. -/
theorem cutsNames_plain (f : FuncId) (fn : Func) (hf : Tryz.pinned.checked.prog.funcNamed "dailies/dailieslaw19.CutsNames" = some f) (hfn : Tryz.pinned.checked.prog.funcs[f]? = some fn) :
    true = Tryz.pinned.checked.prog.looks [] ∧ ∀ (j : Nat) t, fn.params[j]? = some t → Tryz.pinned.checked.prog.wantsStandIn t = false := by
  obtain rfl : f = 3 := Option.some.inj ((show Tryz.prog.funcNamed "dailies/dailieslaw19.CutsNames" = some 3 by kernel_rfl).symm.trans hf) |>.symm
  obtain rfl : fn = Tryz.f3 := (Option.some.inj (Tryz.func3.symm.trans hfn)).symm
  refine ⟨by kernel_rfl, fun j t ht => ?_⟩
  rw [Tryz.params3] at ht
  simp at ht
/-- The card of CutsNames. -/
theorem cutsNames_holds : Rows.CutsNamesCardSaid :=
  Claim7.holds_tied_plain_at .later [] _ _ _ _ cutsNames_said (fun _ h => by cases h) (by kernel_rfl) (fun _ h => by cases h) cutsNames_row_tie rfl ⟨rfl, rfl⟩ (by kernel_rfl) rfl cutsNames_plain (by kernel_rfl)
#print axioms cutsNames_holds
end Go.Proofs.YtgimedhfhpiipaaGreatDoor
