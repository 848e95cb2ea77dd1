/-
  Laws for the event line: what its region of append leaves; the list's events as cells. Conditions: none of the program.
-/
import Derived.Test.YtgimedhfhpiipaaGreatDoorEvent
namespace Go.Proofs.Cuts
open Go.RowKit

/-- Behind the append and the store of the slice. -/
theorem kv_end {R P B n : Nat} {w a b : World} {v u : Value} {xs : List Value} (hk : Kp R w a) (h : a.ownsRow B 51 5 v n xs) (hg : a.grownBy b v.ownBlock) : Kv R P B w (b.setCell ⟨P, 2, none⟩ u) := by
  refine ⟨hg.os.trans hk.os, hg.tape.trans hk.tape, hg.output.trans hk.output, Nat.le_trans hk.size (Nat.le_trans hg.size (by simp [World.setCell])), fun k hlt hR hP hB => ?_⟩
  have h1 := hk.block k hlt hR
  rw [Below.heap_setCell _ _ _ _ hP, hg.block k (Nat.lt_of_lt_of_le hlt hk.size) ?_, h1]
  intro he
  obtain ⟨c, fz, hc⟩ := Lib.ownsRow_kind h k he.symm
  rw [h1] at hc
  exact hB (own_ge h k he.symm).1 c fz hc
theorem Kv.gr {R P B : Nat} {w a b : World} (h : Kv R P B w a) (g : Gr a b) : Kv R P B w b :=
  ⟨g.below.os.trans h.os, g.below.tape.trans h.tape, g.below.output.trans h.output, Nat.le_trans h.size g.size, fun k hk hR hP hB => (g.below.block k (Nat.lt_of_lt_of_le hk h.size)).trans (h.block k hk hR hP hB)⟩
theorem Laid.kv {R P B : Nat} {w w' : World} (h : Laid w) (k : Kv R P B w w') (hR : 20 ≤ R) (hP : 20 ≤ P) (hB : 20 ≤ B) : Laid w' :=
  h.below (B := 20) ⟨k.os, k.tape, k.output, k.size, fun j hj => k.block j (Nat.lt_of_lt_of_le hj h.size) (by omega) (by omega) (fun hb => by omega)⟩ (Nat.le_refl _)

theorem evsCells_at : ∀ (l : List Ev) (k : Nat) (e : Ev), l[k]? = some e → ∀ i, i < 5 → (evsCells l)[k * 5 + i]? = (evCells e)[i]?
  | [], k, e, h => by simp at h
  | x :: r, 0, e, h => by
    intro i hi
    simp only [List.getElem?_cons_zero, Option.some.injEq] at h
    subst h
    simp only [evsCells, List.flatMap_cons, Nat.zero_mul, Nat.zero_add]
    rw [List.getElem?_append_left (by simpa [evCells] using hi)]
  | x :: r, k + 1, e, h => by
    intro i hi
    have := evsCells_at r k e (by simpa using h) i hi
    simp only [evsCells, List.flatMap_cons] at this ⊢
    rw [List.getElem?_append_right (by simp [evCells]; omega), ← this]
    congr 1
    simp [evCells]
    omega
theorem own_cap {w : World} {B e size g m cap : Nat} {xs : List Value} (h : w.ownsRow B e size (.slice (some ⟨g, 0, none⟩) m cap) m xs) : m ≤ cap := by
  rcases h.2 with ⟨h0, _⟩ | ⟨g', c', cur, h0, _, _, h1, _⟩
  · cases h0
  · cases h0; exact h1
theorem evsCells_append (a b : List Ev) : evsCells (a ++ b) = evsCells a ++ evsCells b := by simp [evsCells]
theorem evsCells_one (e : Ev) : evsCells [e] = evCells e := by simp [evsCells]
theorem evsAt_own {w : World} {B g n cap : Nat} {l : List Ev} (h : w.ownsRow B 51 5 (.slice (some ⟨g, 0, none⟩) n cap) n (evsCells l)) : EvsAt w (some ⟨g, 0, none⟩) l := by
  refine .inr ⟨g, 0, rfl, fun k e hk => ?_⟩
  have hc := h.cells (g := g) rfl
  have key : ∀ i u, i < 5 → (evCells e)[i]? = some u → w.cell? ⟨g, 0 + k * 5 + i, none⟩ = some u := fun i u hi hu => by
    have := hc (k * 5 + i) u ((evsCells_at l k e hk i hi).trans hu)
    rw [Addr.add_lit, ← Nat.add_assoc] at this
    exact this
  exact ⟨key 0 _ (by omega) rfl, key 1 _ (by omega) rfl, key 2 _ (by omega) rfl, key 3 _ (by omega) rfl, key 4 _ (by omega) rfl⟩
end Go.Proofs.Cuts
