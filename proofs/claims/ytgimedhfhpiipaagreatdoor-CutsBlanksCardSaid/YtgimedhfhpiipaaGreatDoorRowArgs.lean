/-
  What the rows' arguments are: a list, a text, a number. No conditions.
-/
import Derived.Test.YtgimedhfhpiipaaGreatDoorRowWorld
import Derived.Test.YtgimedhfhpiipaaGreatDoorCheck3
import Derived.Lib.SmallJoins
import Derived.Deep.Slices
import Derived.Carry
import Derived.SizedLaws
import Derived.ShutString
import Derived.Lib.LaidU8
namespace Go.Proofs.Cuts
open Go.ChangeShapes Go.WideShapes Go.ChangeAt Go.RowKit Go.Deep Go.Joins Go.Proofs.YtgimedhfhpiipaaGreatDoor

theorem c51 : Tryz.prog.cellsOf 51 = 5 := by kernel_rfl
theorem c9 : Tryz.prog.cellsOf 9 = 1 := by kernel_rfl
theorem c30 : Tryz.prog.cellsOf 30 = 3 := by kernel_rfl

section
variable {H : Type} {enc : TypeId × Value → H} {w : World} {sp : Nat → Bool} {held : Bool}
set_option maxRecDepth 100000 in
theorem open_ev {a : Addr} {n : Nat} {cs : List Value} {x : DataW H × List MemPlace} (hc : w.cells? 0 a 5 = some cs) (h : DataW.trod enc Tryz.prog w 0 sp held n 51 cs = some x) :
    ∃ e : Ev, (e.reel.size ≤ maxLen ∧ e.note.size ≤ maxLen) ∧ ∀ j u, (evCells e)[j]? = some u → w.cell? (a.add j) = some u := by
  obtain ⟨xs, n', _, _, hcl, hxl, hf⟩ := DataW.trod_struct Tryz.underlying51 h
  obtain ⟨_, hl, hat⟩ := World.cells?_some hc
  rw [c51] at hcl
  match cs, hcl with
  | [u0, u1, u2, u3, u4], _ =>
    have g0 := hf 0 _ rfl
    have g1 := hf 1 _ rfl
    have g2 := hf 2 _ rfl
    have g3 := hf 3 _ rfl
    have g4 := hf 4 _ rfl
    have hx5 : xs.length = 5 := hxl
    rw [List.getElem?_eq_getElem (by omega)] at g0 g1 g2 g3 g4
    change DataW.trod _ _ _ _ _ _ _ 9 (([u0, u1, u2, u3, u4].drop 0).take (Tryz.prog.cellsOf 9)) = _ at g0
    change DataW.trod _ _ _ _ _ _ _ 3 (([u0, u1, u2, u3, u4].drop 1).take (Tryz.prog.cellsOf 3)) = _ at g1
    change DataW.trod _ _ _ _ _ _ _ 3 (([u0, u1, u2, u3, u4].drop 2).take (Tryz.prog.cellsOf 3)) = _ at g2
    change DataW.trod _ _ _ _ _ _ _ 3 (([u0, u1, u2, u3, u4].drop 3).take (Tryz.prog.cellsOf 3)) = _ at g3
    change DataW.trod _ _ _ _ _ _ _ 9 (([u0, u1, u2, u3, u4].drop 4).take (Tryz.prog.cellsOf 9)) = _ at g4
    rw [c9] at g0 g4
    rw [c3] at g1 g2 g3
    change DataW.trod _ _ _ _ _ _ _ 9 [u0] = _ at g0
    change DataW.trod _ _ _ _ _ _ _ 3 [u1] = _ at g1
    change DataW.trod _ _ _ _ _ _ _ 3 [u2] = _ at g2
    change DataW.trod _ _ _ _ _ _ _ 3 [u3] = _ at g3
    change DataW.trod _ _ _ _ _ _ _ 9 [u4] = _ at g4
    obtain ⟨s0, e0, _, z0⟩ := DataW.trod_string Tryz.underlying9 g0
    obtain ⟨s1, e1, _, _⟩ := DataW.trod_int Tryz.underlying3 g1
    obtain ⟨s2, e2, _, _⟩ := DataW.trod_int Tryz.underlying3 g2
    obtain ⟨s3, e3, _, _⟩ := DataW.trod_int Tryz.underlying3 g3
    obtain ⟨s4, e4, _, z4⟩ := DataW.trod_string Tryz.underlying9 g4
    refine ⟨⟨s0, s1, s2, s3, s4⟩, ⟨z0, z4⟩, fun j u hu => ?_⟩
    have hj : j < 5 := by have := (List.getElem?_eq_some_iff.1 hu).1; simpa [evCells] using this
    rw [hat j hj]
    simp only [List.cons.injEq, and_true] at e0 e1 e2 e3 e4
    subst e0 e1 e2 e3 e4
    exact hu
/-- A slice of events. -/
theorem open_events {n : Nat} {v : Value} {x : DataW H × List MemPlace} (h : DataW.trod enc Tryz.prog w 0 sp held n 28 [v] = some x) :
    ∃ (A : Option Addr) (evs : List Ev) (c : Nat), v = .slice A evs.length c ∧ evs.length ≤ c ∧ EvsAt w A evs ∧ ∀ e ∈ evs, e.reel.size ≤ maxLen ∧ e.note.size ≤ maxLen := by
  rcases open_slice Tryz.underlying28 h with ⟨hcs, _⟩ | ⟨a, len, cap, m, n', D, Pl, hcs, _, hl, _, hm, _, hi⟩
  · simp only [List.cons.injEq, and_true] at hcs
    exact ⟨none, [], 0, hcs, Nat.le_refl _, .inl rfl, by intro e he; cases he⟩
  · simp only [List.cons.injEq, and_true] at hcs
    have hlm : len ≤ m := by rw [hm]; split <;> omega
    have hx : ∀ i, ∃ e : Ev, i < len → (e.reel.size ≤ maxLen ∧ e.note.size ≤ maxLen) ∧ ∀ j u, (evCells e)[j]? = some u → w.cell? ((a.add (i * 5)).add j) = some u := by
      intro i
      by_cases hlt : i < len
      · obtain ⟨cs', h1, h2⟩ := hi i (by omega)
        rw [c51] at h1
        obtain ⟨e, he⟩ := open_ev h1 h2
        exact ⟨e, fun _ => he⟩
      · exact ⟨⟨⟨#[]⟩, 0, 0, 0, ⟨#[]⟩⟩, fun h => absurd h hlt⟩
    obtain ⟨E, hE⟩ := Classical.skolem.1 hx
    refine ⟨some a, (List.range len).map E, cap, by rw [hcs]; simp, by simpa using hl, ?_, ?_⟩
    · by_cases h0 : len = 0
      · exact .inl (by rw [h0]; rfl)
      · obtain ⟨b, o, s⟩ := a
        have hs : s = none := by
          have h00 := (hE 0 (by omega)).2 0 _ rfl
          have ha : ∀ a : Addr, a.add 0 = a := fun a => by simp [Addr.add]
          rw [Nat.zero_mul, ha, ha] at h00
          exact Go.Proofs.cell_spot h00
        subst hs
        refine .inr ⟨b, o, rfl, fun k e he => ?_⟩
        have hk : k < len := by have := (List.getElem?_eq_some_iff.1 he).1; simpa using this
        rw [List.getElem?_map, List.getElem?_range hk] at he
        simp only [Option.map_some, Option.some.injEq] at he
        subst he
        have hc := (hE k hk).2
        have key : ∀ j u, (evCells (E k))[j]? = some u → w.cell? ⟨b, o + k * 5 + j, none⟩ = some u := fun j u hu => by
          have := hc j u hu
          rwa [Addr.add_lit, Addr.add_lit] at this
        exact ⟨key 0 _ rfl, key 1 _ rfl, key 2 _ rfl, key 3 _ rfl, key 4 _ rfl⟩
    · intro e he
      obtain ⟨i, hi', rfl⟩ := List.mem_map.1 he
      exact (hE i (List.mem_range.1 hi')).1
set_option maxRecDepth 100000 in
/-- A list by value. -/
theorem open_list {r : Reach} {b0 : Nat} {v : Value} {d : DataW H} {p : List MemPlace} (hv : Value.okWide Tryz.prog w r b0 30 v) (h : DataW.Trod enc Tryz.prog w 0 sp held 30 v d p) :
    ∃ (l : CL) (A : Option Addr) (c : Nat), v = .agg #[.string l.title, .int .i64 l.rate, .slice A l.evs.length c] ∧ l.evs.length ≤ c ∧ EvsAt w A l.evs ∧ (∀ e ∈ l.evs, e.reel.size ≤ maxLen ∧ e.note.size ≤ maxLen) ∧ l.title.size ≤ maxLen := by
  obtain ⟨v0, v1, v2, y0, y1, y2, n, rfl, _, _, t0, t1, t2⟩ := open_agg3 Tryz.underlying30 (by kernel_rfl) c30 hv h
  obtain ⟨s0, e0, _, z0⟩ := DataW.trod_string Tryz.underlying9 t0
  obtain ⟨s1, e1, _, _⟩ := DataW.trod_int Tryz.underlying27 t1
  obtain ⟨A, evs, c, rfl, hc, hS, hsz⟩ := open_events t2
  simp only [List.cons.injEq, and_true] at e0 e1
  subst e0 e1
  exact ⟨⟨s0, s1, evs⟩, A, c, rfl, hc, hS, hsz, z0⟩
end
theorem laidOut : laidOutB Tryz.prog = true := by kernel_rfl
end Go.Proofs.Cuts
