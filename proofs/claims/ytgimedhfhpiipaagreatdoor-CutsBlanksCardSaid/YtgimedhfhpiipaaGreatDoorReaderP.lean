/-
  (*reader).plain: a plain word that a predicate holds of. Conditions: the predicate's contract.
-/
import Derived.Test.YtgimedhfhpiipaaGreatDoorReader
namespace Go.Proofs.Cuts
open Go.RowKit

/-- What a predicate handed to plain does. -/
def Holds (F : Nat) (holds : ByteArray → Bool) : Prop :=
  ∀ (s : ByteArray) (w : World), s.size ≤ 20000 → Laid w → Calls Tryz.prog F #[.string s] w fun e w' => e = .returned (.bool (holds s)) ∧ Gr w w'

theorem next_ok {end_ : Int} {t : Bool} {l r : List Wd} {x : Wd} (h : next end_ t l = .ok (x, r)) : l = x :: r ∧ x.text = t ∧ x.bad = false ∧ (t = true → x.s.size ≤ 100) := by
  cases l with
  | nil => simp [next] at h
  | cons y ys =>
    rw [next] at h
    by_cases h1 : y.bad = true ∨ y.text ≠ t
    · rw [if_pos h1] at h; cases h
    · rw [if_neg h1] at h
      by_cases h2 : t = true ∧ 100 < y.s.size
      · rw [if_pos h2] at h; cases h
      · rw [if_neg h2] at h
        cases h
        have h3 : ¬ x.bad = true := fun hb => h1 (.inl hb)
        have h4 : x.text = t := Decidable.byContradiction fun hb => h1 (.inr hb)
        exact ⟨rfl, h4, by simpa using h3, fun ht => Nat.le_of_not_lt fun hb => h2 ⟨ht, hb⟩⟩

/-- Own blocks kept apart: the result's cell, behind a call that keeps every block but the reader's. -/
theorem set4_end {R : Nat} {w c : World} {T U B : Nat} {v : Value} {a n : Int} (hk : Kp R w c) (hv : Fault T U B c v a n) (hB : w.heap.size < B) (u0 u1 u2 u3 : Value) :
    Fault T U w.heap.size (set4 c w.heap.size u0 u1 u2 u3) v a n ∧ Kp R w (set4 c w.heap.size u0 u1 u2 u3) :=
  ⟨(hv.kp (set4_kp c w.heap.size u0 u1 u2 u3) hB).mono (Nat.le_of_lt hB), hk.own (set4_kp c w.heap.size u0 u1 u2 u3) (Nat.le_refl _)⟩

set_option maxRecDepth 100000 in
theorem plain_any (F : Nat) (holds : ByteArray → Bool) (R S : Nat) (end_ : Int) (l : List Wd) (w : World) (h : Rd w R S end_ l) (hS : S ≤ w.heap.size) (hcf : ∀ s w, (callFunc F #[.string s]).run Tryz.prog w = .ok (.enter F #[.string s]) w) (hH : Holds F holds) (hsz : ∀ x ∈ l, x.text = false → x.s.size ≤ 20000) (hL : Laid w) (h20 : 20 ≤ R) :
    Calls Tryz.prog 58 #[.pointer (some ⟨R, 0, none⟩), .func (.func F) #[] #[]] w fun e w' => NextEnd w.heap.size R S end_ w' e (plainW end_ holds l) ∧ Kp R w w' := by
  have hlt := h.lt
  have hB := (Gr.refl w).alloc (.cells #[.int .i64 0, .string ⟨#[]⟩, .bool false, .bool false] 114)
  have hz0 := heap_new w (.cells #[.int .i64 0, .string ⟨#[]⟩, .bool false, .bool false] 114)
  have hsR : w.heap.size ≠ R := by omega
  have h' := h.gr hB
  have HL := Lib.hid hL
  have Hsz := Lib.hid hsz
  have HH := Lib.hid hH
  clear h hL hsz hH
  go_enter Tryz.func58, Tryz.ntmps58
  go_wp2_with fail
  refine (next_any R S end_ false l _ h').mono ?_
  rintro e w1 ⟨hn, hk⟩
  have hk1 := ((Kp.refl R w).gr hB).trans hk
  have hb1 := hk.heap hsR hz0
  have z : w1.cell? ⟨w.heap.size, 0, none⟩ = some (.int .i64 0) ∧ w1.cell? ⟨w.heap.size, 1, none⟩ = some (.string ⟨#[]⟩) ∧ w1.cell? ⟨w.heap.size, 2, none⟩ = some (.bool false) ∧ w1.cell? ⟨w.heap.size, 3, none⟩ = some (.bool false) := ⟨by simp [World.cell?, hb1], by simp [World.cell?, hb1], by simp [World.cell?, hb1], by simp [World.cell?, hb1]⟩
  have zf : ∀ i, w1.frozen? ⟨w.heap.size, i, none⟩ = false := fun i => by simp [World.frozen?, hb1]
  have hw1 := hk.size
  obtain ⟨z0, z1, z2, z3⟩ := z
  clear h' hz0 hk hb1
  obtain ⟨ans, hans⟩ : ∃ a, next end_ false l = a := ⟨_, rfl⟩
  rw [hans] at hn
  have Hans := Lib.hid hans
  clear hans hB
  match ans, hn, Hans with
  | .error (a, n), hn, Hans =>
    obtain ⟨x, v, rfl, hv⟩ := hn
    have HV := Lib.hid hv
    obtain ⟨vb, rfl, hvb, hvc⟩ := hv
    obtain ⟨xa, xs, xt, xb⟩ := x
    unfold wdAgg
    have y0 := old_alloc z0 (.cells #[.int .i64 xa, .string xs, .bool xt, .bool xb] 114)
    have y1 := old_alloc z1 (.cells #[.int .i64 xa, .string xs, .bool xt, .bool xb] 114)
    have y2 := old_alloc z2 (.cells #[.int .i64 xa, .string xs, .bool xt, .bool xb] 114)
    have y3 := old_alloc z3 (.cells #[.int .i64 xa, .string xs, .bool xt, .bool xb] 114)
    have yf : ∀ i, (w1.alloc (.cells #[.int .i64 xa, .string xs, .bool xt, .bool xb] 114)).frozen? ⟨w.heap.size, i, none⟩ = false := fun i => by rw [World.frozen?_alloc_old _ _ _ (by show w.heap.size ≠ _; simp at hw1; omega)]; exact zf i
    have hE := set4_end (hk1.gr ((Gr.refl w1).alloc (.cells #[.int .i64 xa, .string xs, .bool xt, .bool xb] 114))) (HV.out.grow ((Gr.refl w1).alloc (.cells #[.int .i64 xa, .string xs, .bool xt, .bool xb] 114))) (by simp)
    have HE := Lib.hid hE
    clear z0 z1 z2 z3 zf hE hvc
    go_wp2
    have hp : plainW end_ holds l = .error (a, n) := by rw [plainW, Hans.out]
    rw [hp]
    exact bodyPost_ret (v := .tuple #[wdAgg ⟨xa, xs, xt, xb⟩, .iface 82 (.pointer (some ⟨vb, 0, none⟩))]) (by simp [results, Tryz.results58, wdAgg, go_sem, y0, y1, y2, y3]) rfl ⟨⟨⟨xa, xs, xt, xb⟩, _, rfl, (HE.out _ _ _ _).1⟩, (HE.out _ _ _ _).2⟩
  | .ok (x, r), hn, Hans =>
    obtain ⟨rfl, hr⟩ := hn
    obtain ⟨xa, xs, xt, xb⟩ := x
    have Hl := Lib.hid (next_ok Hans.out)
    have y0 := old_alloc z0 (.cells #[.int .i64 xa, .string xs, .bool xt, .bool xb] 114)
    have y1 := old_alloc z1 (.cells #[.int .i64 xa, .string xs, .bool xt, .bool xb] 114)
    have y2 := old_alloc z2 (.cells #[.int .i64 xa, .string xs, .bool xt, .bool xb] 114)
    have y3 := old_alloc z3 (.cells #[.int .i64 xa, .string xs, .bool xt, .bool xb] 114)
    have yf : ∀ i, (w1.alloc (.cells #[.int .i64 xa, .string xs, .bool xt, .bool xb] 114)).frozen? ⟨w.heap.size, i, none⟩ = false := fun i => by rw [World.frozen?_alloc_old _ _ _ (by show w.heap.size ≠ _; simp at hw1; omega)]; exact zf i
    clear z0 z1 z2 z3 zf
    have hH' := HH.out xs (w1.alloc (.cells #[.int .i64 xa, .string xs, .bool xt, .bool xb] 114)) (Hsz.out _ (by rw [Hl.out.1]; exact List.mem_cons_self ..) Hl.out.2.1) ((HL.out.kp hk1 h20 (Nat.le_of_lt hlt)).alloc _)
    unfold wdAgg
    have HH' := Lib.hid hH'
    clear hH'
    have hbX := heap_new w1 (.cells #[.int .i64 xa, .string xs, .bool xt, .bool xb] 114)
    have hkX := hk1.gr ((Gr.refl w1).alloc (.cells #[.int .i64 xa, .string xs, .bool xt, .bool xb] 114))
    have hrX := hr.gr ((Gr.refl w1).alloc (.cells #[.int .i64 xa, .string xs, .bool xt, .bool xb] 114))
    go_wp2_with fail
    refine HH'.out.mono ?_
    rintro e w2 ⟨rfl, hg⟩
    have c1 := (hg.below.block _ (by simp)).trans hbX
    have x0 : w2.cell? ⟨w1.heap.size, 0, none⟩ = some (.int .i64 xa) := by simp [World.cell?, c1]
    have x1 : w2.cell? ⟨w1.heap.size, 1, none⟩ = some (.string xs) := by simp [World.cell?, c1]
    have x2 : w2.cell? ⟨w1.heap.size, 2, none⟩ = some (.bool xt) := by simp [World.cell?, c1]
    have x3 : w2.cell? ⟨w1.heap.size, 3, none⟩ = some (.bool xb) := by simp [World.cell?, c1]
    have y0' := hg.cell y0
    have y1' := hg.cell y1
    have y2' := hg.cell y2
    have y3' := hg.cell y3
    have yf' : ∀ i, w2.frozen? ⟨w.heap.size, i, none⟩ = false := fun i => (hg.below.frozen (by simp at hw1 ⊢; omega)).trans (yf i)
    have hk2 := hkX.gr hg
    have hr2 := hrX.gr hg
    clear y0 y1 y2 y3 yf hkX hrX hbX c1
    cases hh : holds xs with
    | true =>
      have Hh := Lib.hid hh
      clear hh
      have HR2 := Lib.hid (hr2.own (b := w.heap.size) (set4_kp w2 w.heap.size (.int .i64 xa) (.string xs) (.bool xt) (.bool xb)) hsR hS)
      have HK2 := Lib.hid (hk2.own (set4_kp w2 w.heap.size (.int .i64 xa) (.string xs) (.bool xt) (.bool xb)) (Nat.le_refl _))
      clear hr2 hk2
      go_wp2
      have hp : plainW end_ holds l = .ok (⟨xa, xs, xt, xb⟩, r) := by rw [plainW, Hans.out]; simp only [Hh.out, if_true]
      rw [hp]
      exact bodyPost_ret (v := .tuple #[wdAgg ⟨xa, xs, xt, xb⟩, .nilIface]) (by simp [results, Tryz.results58, wdAgg, go_sem, y0', y1', y2', y3']) rfl ⟨⟨rfl, HR2.out⟩, HK2.out⟩
    | false =>
      have Hh := Lib.hid hh
      clear hh
      go_wp2_with fail
      refine (fault_any _ _ _).mono ?_
      rintro e w3 ⟨⟨v, rfl, hv⟩, hg3⟩
      have p0 := hg3.cell y0'
      have p1 := hg3.cell y1'
      have p2 := hg3.cell y2'
      have p3 := hg3.cell y3'
      have x0' := hg3.cell x0
      have x1' := hg3.cell x1
      have x2' := hg3.cell x2
      have x3' := hg3.cell x3
      have pf : ∀ i, w3.frozen? ⟨w.heap.size, i, none⟩ = false := fun i => (hg3.below.frozen (by have := hg.size; simp at hw1 this ⊢; omega)).trans (yf' i)
      have HE := Lib.hid (set4_end (hk2.gr hg3) hv (by have := hg.size; simp at hw1 this ⊢; omega))
      clear y0' y1' y2' y3' yf' x0 x1 x2 x3 hv
      go_wp2
      have hp : plainW end_ holds l = .error (xa, 193) := by rw [plainW, Hans.out]; simp only [Hh.out]; rfl
      rw [hp]
      exact bodyPost_ret (v := .tuple #[wdAgg ⟨xa, xs, xt, xb⟩, v]) (by simp [results, Tryz.results58, wdAgg, go_sem, p0, p1, p2, p3]) rfl ⟨⟨⟨xa, xs, xt, xb⟩, _, rfl, (HE.out _ _ _ _).1⟩, (HE.out _ _ _ _).2⟩
end Go.Proofs.Cuts
