/-
  (*reader).time: a word that names a time. Conditions: the listed variables lie in the world; the words are short.
-/
import Derived.Test.YtgimedhfhpiipaaGreatDoorReaderQ
import Derived.Test.YtgimedhfhpiipaaGreatDoorAs
namespace Go.Proofs.Cuts
open Go.RowKit

/-- What time answers. -/
def TimeEnd (B R S : Nat) (end_ : Int) (w : World) (e : Ending) : Except Err (Int × Wd × List Wd) → Prop
  | .ok (n, x, r) => e = .returned (.tuple #[.int .i64 n, wdAgg x, .nilIface]) ∧ Rd w R S end_ r
  | .error (a, m) => ∃ k x v, e = .returned (.tuple #[.int .i64 k, wdAgg x, v]) ∧ Fault 82 83 B w v a m

set_option maxRecDepth 100000 in
theorem time_any (rate : Int) (R S : Nat) (end_ : Int) (l : List Wd) (w : World) (h : Rd w R S end_ l) (hS : S ≤ w.heap.size) (hsz : ∀ x ∈ l, x.text = false → x.s.size ≤ 20000) (hL : Laid w) (h20 : 20 ≤ R) :
    Calls Tryz.prog 68 #[.pointer (some ⟨R, 0, none⟩), .int .i64 rate] w fun e w' => TimeEnd w.heap.size R S end_ w' e (timeW end_ rate l) ∧ Kp R w w' := by
  obtain ⟨TA, hTA⟩ : ∃ t, timeW end_ rate l = t := ⟨_, rfl⟩
  rw [hTA]
  have HTA := Lib.hid hTA
  clear hTA
  have hlt := h.lt
  have hB := (Gr.refl w).alloc (.cells #[.int .i64 0, .string ⟨#[]⟩, .bool false, .bool false] 114)
  have hz0 := heap_new w (.cells #[.int .i64 0, .string ⟨#[]⟩, .bool false, .bool false] 114)
  have hsR : w.heap.size ≠ R := by omega
  have h' := h.gr hB
  have HL := Lib.hid hL
  have Hsz := Lib.hid hsz
  clear h hL hsz
  go_enter Tryz.func68, Tryz.ntmps68
  go_wp2_with fail
  refine (next_any R S end_ false l _ h').mono ?_
  rintro e w1 ⟨hn, hk⟩
  have hk1 := ((Kp.refl R w).gr hB).trans hk
  have hb1 := hk.heap hsR hz0
  have z : w1.cell? ⟨w.heap.size, 0, none⟩ = some (.int .i64 0) ∧ w1.cell? ⟨w.heap.size, 1, none⟩ = some (.string ⟨#[]⟩) ∧ w1.cell? ⟨w.heap.size, 2, none⟩ = some (.bool false) ∧ w1.cell? ⟨w.heap.size, 3, none⟩ = some (.bool false) := ⟨by simp [World.cell?, hb1], by simp [World.cell?, hb1], by simp [World.cell?, hb1], by simp [World.cell?, hb1]⟩
  have zf : ∀ i, w1.frozen? ⟨w.heap.size, i, none⟩ = false := fun i => by simp [World.frozen?, hb1]
  have hw1 := hk.size
  obtain ⟨z0, z1, z2, z3⟩ := z
  clear h' hz0 hk hb1
  obtain ⟨ans, hans⟩ : ∃ a, next end_ false l = a := ⟨_, rfl⟩
  rw [hans] at hn
  have Hans := Lib.hid hans
  clear hans hB
  match ans, hn, Hans with
  | .error (a, n), hn, Hans =>
    obtain ⟨x, v, rfl, hv⟩ := hn
    have HV := Lib.hid hv
    obtain ⟨vb, rfl, hvb, hvc⟩ := hv
    obtain ⟨xa, xs, xt, xb⟩ := x
    unfold wdAgg
    have y0 := old_alloc z0 (.cells #[.int .i64 xa, .string xs, .bool xt, .bool xb] 114)
    have y1 := old_alloc z1 (.cells #[.int .i64 xa, .string xs, .bool xt, .bool xb] 114)
    have y2 := old_alloc z2 (.cells #[.int .i64 xa, .string xs, .bool xt, .bool xb] 114)
    have y3 := old_alloc z3 (.cells #[.int .i64 xa, .string xs, .bool xt, .bool xb] 114)
    have yf : ∀ i, (w1.alloc (.cells #[.int .i64 xa, .string xs, .bool xt, .bool xb] 114)).frozen? ⟨w.heap.size, i, none⟩ = false := fun i => by rw [World.frozen?_alloc_old _ _ _ (by show w.heap.size ≠ _; simp at hw1; omega)]; exact zf i
    have hE := set4_end (hk1.gr ((Gr.refl w1).alloc (.cells #[.int .i64 xa, .string xs, .bool xt, .bool xb] 114))) (HV.out.grow ((Gr.refl w1).alloc (.cells #[.int .i64 xa, .string xs, .bool xt, .bool xb] 114))) (by simp)
    have HE := Lib.hid hE
    clear z0 z1 z2 z3 zf hE hvc
    go_wp2
    go_region
    go_wp2
    have hp : TA = .error (a, n) := by rw [← HTA.out, timeW, Hans.out]
    rw [hp]
    exact bodyPost_ret (v := .tuple #[.int .i64 0, wdAgg ⟨xa, xs, xt, xb⟩, .iface 82 (.pointer (some ⟨vb, 0, none⟩))]) (by simp [results, Tryz.results68, wdAgg, go_sem, y0, y1, y2, y3]) rfl ⟨⟨0, ⟨xa, xs, xt, xb⟩, _, rfl, (HE.out _ _ _ _).1.grow (Gr.refl _).drew⟩, (HE.out _ _ _ _).2.drew⟩
  | .ok (x, r), hn, Hans =>
    obtain ⟨rfl, hr⟩ := hn
    obtain ⟨xa, xs, xt, xb⟩ := x
    have Hl := Lib.hid (next_ok Hans.out)
    have hXg := (Gr.refl w1).alloc (.cells #[.int .i64 xa, .string xs, .bool xt, .bool xb] 114)
    have hbX := heap_new w1 (.cells #[.int .i64 xa, .string xs, .bool xt, .bool xb] 114)
    have hLX := (HL.out.kp hk1 h20 (Nat.le_of_lt hlt)).grow hXg
    have hnum := number_any rate xs (w1.alloc (.cells #[.int .i64 xa, .string xs, .bool xt, .bool xb] 114)) (Hsz.out _ (by rw [Hl.out.1]; exact List.mem_cons_self ..) Hl.out.2.1) hLX
    have Hnum := Lib.hid hnum
    unfold wdAgg
    clear hnum
    go_wp2_with fail
    refine Hnum.out.mono ?_
    rintro e w2 ⟨hne, hg2⟩
    have hgt := hXg.trans hg2
    have hk2 := hk1.gr hgt
    have hr2 := hr.gr hgt
    have hL2 := hLX.grow hg2
    have y0 := hgt.cell z0
    have y1 := hgt.cell z1
    have y2 := hgt.cell z2
    have y3 := hgt.cell z3
    have yf : ∀ i, w2.frozen? ⟨w.heap.size, i, none⟩ = false := fun i => (hgt.below.frozen (by simp at hw1 ⊢; omega)).trans (zf i)
    have hw2 := hgt.size
    have c1 := (hg2.below.block _ (by simp)).trans hbX
    have x0 : w2.cell? ⟨w1.heap.size, 0, none⟩ = some (.int .i64 xa) := by simp [World.cell?, c1]
    have x1 : w2.cell? ⟨w1.heap.size, 1, none⟩ = some (.string xs) := by simp [World.cell?, c1]
    have x2 : w2.cell? ⟨w1.heap.size, 2, none⟩ = some (.bool xt) := by simp [World.cell?, c1]
    have x3 : w2.cell? ⟨w1.heap.size, 3, none⟩ = some (.bool xb) := by simp [World.cell?, c1]
    clear z0 z1 z2 z3 zf c1 hbX hLX hr hk1
    have HR2 := Lib.hid hr2
    have HK2 := Lib.hid hk2
    have HL2 := Lib.hid hL2
    clear hr2 hk2 hL2
    cases hn : number rate (bl xs) with
    | some n =>
      rw [hn] at hne
      have Hn := Lib.hid hn
      clear hn
      obtain rfl := hne
      go_wp2_with fail
      refine (as_nil _ _).mono ?_
      rintro e w3 ⟨rfl, rfl⟩
      have q0 := old_alloc y0 (.cells #[.pointer none] 82)
      have q1 := old_alloc y1 (.cells #[.pointer none] 82)
      have q2 := old_alloc y2 (.cells #[.pointer none] 82)
      have q3 := old_alloc y3 (.cells #[.pointer none] 82)
      have p0 := old_alloc x0 (.cells #[.pointer none] 82)
      have p1 := old_alloc x1 (.cells #[.pointer none] 82)
      have p2 := old_alloc x2 (.cells #[.pointer none] 82)
      have p3 := old_alloc x3 (.cells #[.pointer none] 82)
      have qf : ∀ i, (w2.alloc (.cells #[.pointer none] 82)).frozen? ⟨w.heap.size, i, none⟩ = false := fun i => by rw [World.frozen?_alloc_old _ _ _ (by show w.heap.size ≠ _; simp at hw1; omega)]; exact yf i
      clear y0 y1 y2 y3 x0 x1 x2 x3 yf
      have HR3 := Lib.hid (fun u0 u1 u2 u3 => (HR2.out.gr ((Gr.refl w2).alloc (.cells #[.pointer none] 82))).own (b := w.heap.size) (set4_kp (w2.alloc (.cells #[.pointer none] 82)) w.heap.size u0 u1 u2 u3) hsR hS)
      have HK3 := Lib.hid (fun u0 u1 u2 u3 => (HK2.out.gr ((Gr.refl w2).alloc (.cells #[.pointer none] 82))).own (set4_kp (w2.alloc (.cells #[.pointer none] 82)) w.heap.size u0 u1 u2 u3) (Nat.le_refl _))
      go_wp2
      go_region
      go_wp2
      have hp : TA = .ok (n, ⟨xa, xs, xt, xb⟩, r) := by rw [← HTA.out, timeW, Hans.out]; simp only [Hn.out]
      rw [hp]
      exact bodyPost_ret (v := .tuple #[.int .i64 n, wdAgg ⟨xa, xs, xt, xb⟩, .nilIface]) (by simp [results, Tryz.results68, wdAgg, go_sem, q0, q1, q2, q3]) rfl ⟨⟨rfl, (HR3.out _ _ _ _).gr (Gr.refl _).drew⟩, (HK3.out _ _ _ _).drew⟩
    | none =>
      rw [hn] at hne
      have Hn := Lib.hid hn
      clear hn
      obtain ⟨v, a, er, rfl, hv⟩ := hne
      obtain ⟨vb, rfl, hvb, hvc⟩ := hv
      have hAs := AsFault.as_hit ⟨vb, 0, none⟩ ⟨w2.heap.size, 0, none⟩ (.pointer none) (w2.alloc (.cells #[.pointer none] 82)) (old_alloc HL2.out.et _) (by simp) (by simp)
      have HAs := Lib.hid hAs
      clear hAs
      go_wp2_with fail
      refine HAs.out.mono ?_
      rintro e w3 ⟨rfl, hw3⟩
      have hg3 : Gr w2 w3 := by rw [hw3]; refine Gr.set ?_ (by simp) _; repeat (first | exact Gr.refl _ | apply Gr.alloc)
      clear hw3 hvc
      have q0 := hg3.cell y0
      have q1 := hg3.cell y1
      have q2 := hg3.cell y2
      have q3 := hg3.cell y3
      have p0 := hg3.cell x0
      have p1 := hg3.cell x1
      have p2 := hg3.cell x2
      have p3 := hg3.cell x3
      have qf : ∀ i, w3.frozen? ⟨w.heap.size, i, none⟩ = false := fun i => (hg3.below.frozen (by simp at hw1 hw2; show w.heap.size < _; omega)).trans (yf i)
      have hk3 := HK2.out.gr hg3
      clear y0 y1 y2 y3 x0 x1 x2 x3 yf
      have HK3 := Lib.hid hk3
      clear hk3
      have hsz3 := hg3.size
      go_wp2
      go_region_with ((go_at_call 23; refine (fault_any _ _ _).mono ?_; rintro e w4 ⟨⟨v, rfl, hv⟩, hg⟩; have r0 := hg.cell p0; have r1 := hg.cell p1; have r2 := hg.cell p2; have r3 := hg.cell p3; have s0 := hg.cell q0; have s1 := hg.cell q1; have s2 := hg.cell q2; have s3 := hg.cell q3; have sf : ∀ i, w4.frozen? ⟨w.heap.size, i, none⟩ = false := (fun i => (hg.below.frozen (by simp at hw1 hw2 hsz3; show w.heap.size < w3.heap.size; omega)).trans (qf i)); have HE := Lib.hid (set4_end (HK3.out.drew.gr hg) hv (by simp at hw1 hw2 hsz3; show w.heap.size < w3.heap.size; omega)); clear hv))
      all_goals
        have hp : TA = .error (xa, 194) := by rw [← HTA.out, timeW, Hans.out]; simp only [Hn.out]
        go_wp2
        rw [hp]
        exact bodyPost_ret (v := .tuple #[.int .i64 0, wdAgg ⟨xa, xs, xt, xb⟩, v]) (by simp [results, Tryz.results68, wdAgg, go_sem, s0, s1, s2, s3]) rfl ⟨⟨0, ⟨xa, xs, xt, xb⟩, _, rfl, (HE.out _ _ _ _).1⟩, (HE.out _ _ _ _).2⟩
end Go.Proofs.Cuts
