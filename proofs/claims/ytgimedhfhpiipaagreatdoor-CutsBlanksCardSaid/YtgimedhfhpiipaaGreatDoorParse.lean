/-
  cuts.Parse: what it answers. Conditions: the listed variables lie in the world; the text's length fits an int.
-/
import Derived.Test.YtgimedhfhpiipaaGreatDoorEvent3
import Derived.Test.YtgimedhfhpiipaaGreatDoorUnruly
namespace Go.Proofs.Cuts
open Go.RowKit

/-- What Parse answers. -/
def ParseEnd (B : Nat) (w : World) (e : Ending) : Except Err CL → Prop
  | .ok cl => ∃ v, e = .returned (.tuple #[.agg #[.string cl.title, .int .i64 cl.rate, v], .nilIface]) ∧ w.ownsRow B 51 5 v cl.evs.length (evsCells cl.evs)
  | .error (a, n) => ∃ v, e = .returned (.tuple #[.agg #[.string ⟨#[]⟩, .int .i64 0, .slice none 0 0], v]) ∧ Fault 82 83 B w v a n

theorem parse_long (s : ByteArray) (w : World) (h : 20000 < s.size) : Calls Tryz.prog 9 #[.string s] w fun e w' => ParseEnd w.heap.size w' e (parse s) ∧ Gr w w' := by
  have hp : parse s = .error (0, 191) := by rw [parse, if_pos h]
  rw [hp]
  have d0 : decide (20000 < s.size) = true := decide_eq_true h
  have d1 : decide (20000 < (s.size : Int)) = true := decide_eq_true (by omega)
  clear h hp
  have hz := heap_new w (.cells #[.string ⟨#[]⟩, .int .i64 0, .slice none 0 0] 30)
  have hB := (Gr.refl w).alloc (.cells #[.string ⟨#[]⟩, .int .i64 0, .slice none 0 0] 30)
  go_enter Tryz.func9, Tryz.ntmps9
  go_wp2_with fail
  refine (fault_any _ _ _).mono ?_
  rintro e w1 ⟨⟨v, rfl, hv⟩, hg⟩
  have h1 := (hg.below.block _ (Array.getElem?_eq_some_iff.1 hz).1).trans hz
  obtain ⟨c0, c1, c2, cf⟩ := cells3 h1
  have HE := Lib.hid (set3_end ((Kp.refl w.heap.size w).gr (hB.trans hg)) hv (by simp))
  have HG := Lib.hid (hB.trans hg)
  clear hz h1 hv hB hg
  go_wp2
  exact bodyPost_ret (v := .tuple #[.agg #[.string ⟨#[]⟩, .int .i64 0, .slice none 0 0], v]) (by simp [results, Tryz.results9, go_sem, c0, c1, c2]) rfl ⟨⟨_, rfl, (HE.out _ _ _).1⟩, ((HG.out.set (p := ⟨w.heap.size, 0, none⟩) (Nat.le_refl _) _).set (p := ⟨w.heap.size, 1, none⟩) (Nat.le_refl _) _).set (p := ⟨w.heap.size, 2, none⟩) (Nat.le_refl _) _⟩

theorem parse_bad (s : ByteArray) (w : World) (h : ¬ 20000 < s.size) (k : Nat) (hu : unruly (bl s) = some k) (hL : Laid w) : Calls Tryz.prog 9 #[.string s] w fun e w' => ParseEnd w.heap.size w' e (parse s) ∧ Gr w w' := by
  have hp : parse s = .error (k, 192) := by rw [parse, if_neg h, hu]
  rw [hp]
  have d0 : decide (20000 < s.size) = false := decide_eq_false h
  have d1 : decide (20000 < (s.size : Int)) = false := decide_eq_false (by omega)
  have hz := heap_new w (.cells #[.string ⟨#[]⟩, .int .i64 0, .slice none 0 0] 30)
  have hB := (Gr.refl w).alloc (.cells #[.string ⟨#[]⟩, .int .i64 0, .slice none 0 0] 30)
  have hun := unruly_any s _ (by unfold maxLen; omega) (hL.grow hB)
  rw [hu, show unrulyV (some k) = (k : Int) from rfl] at hun
  have Hun := Lib.hid hun
  clear hun hu h hp hL
  go_enter Tryz.func9, Tryz.ntmps9
  go_wp2_with fail
  refine Hun.out.mono ?_
  rintro e w1 ⟨rfl, hg1⟩
  have hz1 := (hg1.below.block _ (Array.getElem?_eq_some_iff.1 hz).1).trans hz
  have hG1 := hB.trans hg1
  have hsz1 : w.heap.size < w1.heap.size := (Array.getElem?_eq_some_iff.1 hz1).1
  go_wp2_with fail
  refine (fault_any _ _ _).mono ?_
  rintro e w2 ⟨⟨v, rfl, hv⟩, hg⟩
  have h1 := (hg.below.block _ (Array.getElem?_eq_some_iff.1 hz1).1).trans hz1
  obtain ⟨c0, c1, c2, cf⟩ := cells3 h1
  have HE := Lib.hid (set3_end ((Kp.refl w.heap.size w).gr (hG1.trans hg)) hv hsz1)
  have HG := Lib.hid (hG1.trans hg)
  clear hz hz1 h1 hv hB hg hg1 hG1
  go_wp2
  exact bodyPost_ret (v := .tuple #[.agg #[.string ⟨#[]⟩, .int .i64 0, .slice none 0 0], v]) (by simp [results, Tryz.results9, go_sem, c0, c1, c2]) rfl ⟨⟨_, rfl, (HE.out _ _ _).1⟩, ((HG.out.set (p := ⟨w.heap.size, 0, none⟩) (Nat.le_refl _) _).set (p := ⟨w.heap.size, 1, none⟩) (Nat.le_refl _) _).set (p := ⟨w.heap.size, 2, none⟩) (Nat.le_refl _) _⟩
end Go.Proofs.Cuts
