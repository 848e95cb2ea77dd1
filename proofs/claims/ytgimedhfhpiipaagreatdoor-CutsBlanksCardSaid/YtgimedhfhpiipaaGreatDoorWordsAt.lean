/-
  A row of words of one's own, read as a reader reads it. Conditions: none of the program.
-/
import Derived.Test.YtgimedhfhpiipaaGreatDoorEventL
namespace Go.Proofs.Cuts
open Go.RowKit

theorem wdCells_at : ∀ (l : List Wd) (k : Nat) (e : Wd), l[k]? = some e → ∀ i, i < 4 → (wdCells l)[k * 4 + i]? = (wdCell e)[i]?
  | [], k, e, h => by simp at h
  | x :: r, 0, e, h => by
    intro i hi
    simp only [List.getElem?_cons_zero, Option.some.injEq] at h
    subst h
    simp only [wdCells, List.flatMap_cons, Nat.zero_mul, Nat.zero_add]
    rw [List.getElem?_append_left (by simpa [wdCell] using hi)]
  | x :: r, k + 1, e, h => by
    intro i hi
    have := wdCells_at r k e (by simpa using h) i hi
    simp only [wdCells, List.flatMap_cons] at this ⊢
    rw [List.getElem?_append_right (by simp [wdCell]; omega), ← this]
    congr 1
    simp [wdCell]
    omega
theorem wdsAt_own {w : World} {B R n cap : Nat} {A : Option Addr} {l : List Wd} (h : w.ownsRow B 114 4 (.slice A n cap) n (wdCells l)) (hB : R < B) : WdsAt w R w.heap.size A l := by
  rcases Joins.ownsRow_forms h with ⟨h0, h1⟩ | ⟨g, cap', h0⟩
  · refine .inl ?_
    have := h.1
    rw [h1] at this
    cases l with
    | nil => rfl
    | cons x r => simp [wdCells, wdCell] at this
  · cases h0
    obtain ⟨hg1, hg2⟩ := own_ge h g rfl
    refine .inr ⟨g, 0, rfl, ⟨by omega, hg2⟩, fun k e hk => ?_⟩
    have hc := h.cells (g := g) rfl
    have key : ∀ i u, i < 4 → (wdCell e)[i]? = some u → w.cell? ⟨g, 0 + k * 4 + i, none⟩ = some u := fun i u hi hu => by
      have := hc (k * 4 + i) u ((wdCells_at l k e hk i hi).trans hu)
      rw [Addr.add_lit, ← Nat.add_assoc] at this
      exact this
    exact ⟨key 0 _ (by omega) rfl, key 1 _ (by omega) rfl, key 2 _ (by omega) rfl, key 3 _ (by omega) rfl⟩
end Go.Proofs.Cuts
