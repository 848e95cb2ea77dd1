/-
  timecode.find and PerDay: what they return. Condition: the listed table lies in the world.
-/
import Derived.Test.YtgimedhfhpiipaaGreatDoorBase
namespace Go.Proofs.Cuts
open Go.RowKit

theorem find_no (r : Int) (w : World) (h : isRate r = false) :
    Calls Tryz.prog 80 #[.int .i64 r] w fun e w' => e = .returned (.tuple #[.agg #[.int .i64 0, .int .i64 0, .int .i64 0, .int .i64 0], .bool false]) ∧ Gr w w' := by
  have h' : r < 1 ∨ 7 < r := by simp only [isRate, Bool.and_eq_false_iff, decide_eq_false_iff_not] at h; omega
  clear h
  rcases h' with h | h
  · go_enter Tryz.func80, Tryz.ntmps80
    go_wp2
    exact bodyPost_ret (v := .tuple #[.agg #[.int .i64 0, .int .i64 0, .int .i64 0, .int .i64 0], .bool false]) (by simp [results, Tryz.results80, go_sem]) rfl ⟨rfl, (Gr.refl _).alloc _⟩
  · have h' : ¬ r < 1 := by omega
    go_enter Tryz.func80, Tryz.ntmps80
    go_wp2
    exact bodyPost_ret (v := .tuple #[.agg #[.int .i64 0, .int .i64 0, .int .i64 0, .int .i64 0], .bool false]) (by simp [results, Tryz.results80, go_sem]) rfl ⟨rfl, (Gr.refl _).alloc _⟩

theorem old_alloc {w : World} {b o : Nat} {v : Value} (h : w.cell? ⟨b, o, none⟩ = some v) (x : Obj) : (w.alloc x).cell? ⟨b, o, none⟩ = some v := by
  rw [World.cell?_alloc_lt _ _ ⟨b, o, none⟩ (World.block_lt_of_cell? w _ h)]; exact h

/-- find, of a rate: its count and what it leaves out; num and den are what the table says. -/
theorem find_at (r : Nat) (w : World) (h1 : 1 ≤ r) (h7 : r ≤ 7) (c num den d : Int)
    (c0 : w.cell? ⟨3, r * 4, none⟩ = some (.int .i64 c)) (c1 : w.cell? ⟨3, r * 4 + 1, none⟩ = some (.int .i64 num)) (c2 : w.cell? ⟨3, r * 4 + 2, none⟩ = some (.int .i64 den)) (c3 : w.cell? ⟨3, r * 4 + 3, none⟩ = some (.int .i64 d)) :
    Calls Tryz.prog 80 #[.int .i64 r] w fun e w' => e = .returned (.tuple #[.agg #[.int .i64 c, .int .i64 num, .int .i64 den, .int .i64 d], .bool true]) ∧ Gr w w' := by
  have k0 := old_alloc c0
  have k1 := old_alloc c1
  have k2 := old_alloc c2
  have k3 := old_alloc c3
  clear c0 c1 c2 c3
  have n1 : ¬ ((r : Int) < 1) := by omega
  have n7 : ¬ (7 < (r : Int)) := by omega
  go_enter Tryz.func80, Tryz.ntmps80
  go_wp2
  exact bodyPost_ret (v := .tuple #[.agg #[.int .i64 c, .int .i64 num, .int .i64 den, .int .i64 d], .bool true]) (by simp [results, Tryz.results80, go_sem]) rfl ⟨rfl, (Gr.refl _).alloc _⟩

theorem rate_nat {r : Int} (h : isRate r = true) : ∃ k : Nat, r = k ∧ 1 ≤ k ∧ k ≤ 7 := by
  simp only [isRate, Bool.and_eq_true, decide_eq_true_eq] at h
  exact ⟨r.toNat, by omega, by omega, by omega⟩
/-- find of a rate, out of the listed table. -/
theorem find_yes (r : Int) (w : World) (h : isRate r = true) (hL : Laid w) :
    Calls Tryz.prog 80 #[.int .i64 r] w fun e w' => (∃ num den : Int, e = .returned (.tuple #[.agg #[.int .i64 (rcount r), .int .i64 num, .int .i64 den, .int .i64 (rdrop r)], .bool true])) ∧ Gr w w' := by
  obtain ⟨k, rfl, h1, h7⟩ := rate_nat h
  obtain ⟨num, den, a, b, c, d⟩ := hL.tab k h1 h7
  exact (find_at k w h1 h7 _ _ _ _ a b c d).mono fun e w' ⟨he, hw⟩ => ⟨⟨num, den, he⟩, hw⟩

theorem rcount_range (r : Int) : 0 ≤ rcount r ∧ rcount r ≤ 60 := by unfold rcount; repeat' split; all_goals omega
theorem rdrop_range (r : Int) : 0 ≤ rdrop r ∧ rdrop r ≤ 4 := by unfold rdrop; repeat' split; all_goals omega

theorem perDay_no (r : Int) (w : World) (h : isRate r = false) :
    Calls Tryz.prog 37 #[.int .i64 r] w fun e w' => e = .returned (.tuple #[.int .i64 0, .int .i64 181]) ∧ Gr w w' := by
  go_enter Tryz.func37, Tryz.ntmps37
  go_wp2_with fail
  refine (find_no r _ h).mono ?_
  rintro e w' ⟨rfl, hb⟩
  go_wp2
  go_ret2
  exact ⟨rfl, by repeat (first | assumption | apply Gr.alloc)⟩
theorem perDay_yes (r : Int) (w : World) (h : isRate r = true) (hL : Laid w) :
    Calls Tryz.prog 37 #[.int .i64 r] w fun e w' => e = .returned (.tuple #[.int .i64 (day r), .int .i64 0]) ∧ Gr w w' := by
  have hc := rcount_range r
  have hd := rdrop_range r
  go_enter Tryz.func37, Tryz.ntmps37
  go_wp2_with fail
  refine (find_yes r _ h hL).mono ?_
  rintro e w' ⟨⟨num, den, rfl⟩, hb⟩
  go_wp2
  go_ret2
  exact ⟨rfl, by repeat (first | assumption | apply Gr.alloc)⟩
end Go.Proofs.Cuts
