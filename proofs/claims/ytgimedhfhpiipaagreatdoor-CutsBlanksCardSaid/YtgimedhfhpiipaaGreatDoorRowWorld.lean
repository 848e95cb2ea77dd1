/-
  A world for the rows' witnesses: the listed variables hold what the program's text lays. No conditions.
-/
import Derived.Test.YtgimedhfhpiipaaGreatDoorRowLaid
import Derived.ProofKit
import Derived.LaidMore
import Derived.OpenShut
import Derived.Deep.DeepHandedRow
import Derived.Deep.DeepWitnessRowRef
namespace Go.Proofs.Cuts
open Go.ChangeShapes Go.WideShapes Go.ChangeAt Go.RowKit Go.Proofs.YtgimedhfhpiipaaGreatDoor

/-- A world for the witness: the heap that the door's own run leaves, and the pinned table. -/
noncomputable def laidWorld (os : Os) : World :=
  { World.doorLaid Tryz.prog 1000 os with heap := (World.doorLaid Tryz.prog 1000 os).heap.modify 1 fun
      | .cells _ t frozen => .cells (Go.Pinned.utf8FirstZ.map fun n : Nat => Value.int .u8 (n : Int)).toArray t frozen
      | o => o }
theorem laid_met (os : Os) (args : Array Value) : laidMetH Tryz.prog rowLaid ((laidWorld os).forCall (fun _ _ => 0) ⟨#[], args, []⟩).memory :=
  laidMetH_of_parts3 (fuel := 8) (laidMet_of_run' 8 (by kernel_rfl) (by kernel_rfl)) (by kernel_rfl) (by kernel_rfl)
theorem begin_size : (begin Tryz.prog (fun _ _ => 0) default).world.heap.size = 20 := by kernel_rfl
theorem globals_size : Tryz.prog.globals.size = 15 := by kernel_rfl
theorem size_of_shaped {W : World} (h : W.ShapedOpen Tryz.prog) : 20 ≤ W.heap.size := by
  obtain ⟨o, o', h1, _⟩ := h.2 19 (by rw [globals_size]; omega) (by rw [begin_size]; omega)
  have := (Array.getElem?_eq_some_iff.1 h1).1
  omega

theorem world_vars (os : Os) (args : Array Value) : ((laidWorld os).forCall (fun _ _ => 0) ⟨#[], args, []⟩).variablesRefB Tryz.prog = true := by kernel_rfl
theorem world_rest (os : Os) (args : Array Value) : (((laidWorld os).forCall (fun _ _ => 0) ⟨#[], args, []⟩).heap.toList.drop Tryz.prog.globals.size).take ((begin Tryz.prog (fun _ _ => 0) default).world.heap.size - Tryz.prog.globals.size) =
    (begin Tryz.prog (fun _ _ => 0) default).world.heap.toList.drop Tryz.prog.globals.size := by kernel_rfl
end Go.Proofs.Cuts
