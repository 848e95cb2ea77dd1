/-
  timecode.Number: the number of a name, or a fault. Conditions: the listed variables lie in the world; the text has at most 20000 bytes.
-/
import Derived.Test.YtgimedhfhpiipaaGreatDoorNumber2
namespace Go.Proofs.Cuts
open Go.RowKit

/-- What Number answers. -/
def NumEnd (B : Nat) (w : World) (o : Option Int) (e : Ending) : Prop :=
  match o with
  | some n => e = .returned (.tuple #[.int .i64 n, .nilIface])
  | none => ∃ v a er, e = .returned (.tuple #[.int .i64 0, v]) ∧ Fault 82 83 B w v a er

theorem read_any (r num den : Int) (s : ByteArray) (w : World) (hs : s.size ≤ 20000) (hr : isRate r = true) :
    Calls Tryz.prog 123 #[.agg #[.int .i64 (rcount r), .int .i64 num, .int .i64 den, .int .i64 (rdrop r)], .string s] w fun e w' => ReadEnd r (bl s) e ∧ Gr w w' := by
  cases hf : formGo r 0 (bl s) with
  | some k => exact read_bad r num den s w hs k hf
  | none => exact read_good r num den s w hs hr hf

theorem number_any (r : Int) (s : ByteArray) (w : World) (hs : s.size ≤ 20000) (hL : Laid w) :
    Calls Tryz.prog 100 #[.int .i64 r, .string s] w fun e w' => NumEnd w.heap.size w' (number r (bl s)) e ∧ Gr w w' := by
  cases hr : isRate r with
  | false =>
    have hn : number r (bl s) = none := by unfold number; rw [hr]; rfl
    have Hn := Lib.hid hn
    have Hr := Lib.hid hr
    clear hn hr
    go_enter Tryz.func100, Tryz.ntmps100
    go_wp2_with fail
    refine (find_no r _ Hr.out).mono ?_
    rintro e w2 ⟨rfl, hg2⟩
    go_wp2
    go_ret2
    refine ⟨?_, (hg2.alloc _).alloc _⟩
    rw [Hn.out]
    exact ⟨_, _, _, rfl, w2.heap.size + 1, rfl, by have := hg2.size; omega, heap_new_at (by simp) _⟩
  | true =>
    have Hr := Lib.hid hr
    clear hr
    go_enter Tryz.func100, Tryz.ntmps100
    go_wp2_with fail
    refine (find_yes r _ Hr.out hL).mono ?_
    rintro e w2 ⟨⟨num, den, rfl⟩, hg2⟩
    go_wp2_with fail
    refine (read_any r num den s _ hs Hr.out).mono ?_
    rintro e w3 ⟨⟨n, a, er, rfl, hn⟩, hg3⟩
    have hG := (hg2.alloc (.cells #[.int .i64 (rcount r), .int .i64 num, .int .i64 den, .int .i64 (rdrop r)] 145)).trans hg3
    cases hnum : number r (bl s) with
    | none =>
      rw [hnum] at hn
      simp only at hn
      have her : (er != 0) = true := bne_iff_ne.2 hn
      have Hnum := Lib.hid hnum
      clear hn hnum
      go_wp2
      go_ret2
      refine ⟨?_, hG.alloc _⟩
      rw [Hnum.out]
      exact ⟨_, a, er, rfl, w3.heap.size, rfl, hG.size, heap_new _ _⟩
    | some m =>
      rw [hnum] at hn
      simp only at hn
      obtain ⟨rfl, rfl⟩ := hn
      have Hnum := Lib.hid hnum
      clear hnum
      go_wp2
      go_ret2
      refine ⟨?_, hG⟩
      rw [Hnum.out]
      rfl
end Go.Proofs.Cuts
