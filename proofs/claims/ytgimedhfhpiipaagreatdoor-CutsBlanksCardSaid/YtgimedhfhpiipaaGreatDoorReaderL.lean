/-
  (*reader).list: the line that begins a list. Conditions: the listed variables lie in the world; the words are short.
-/
import Derived.Test.YtgimedhfhpiipaaGreatDoorReaderT
namespace Go.Proofs.Cuts
open Go.RowKit

theorem cells3 {w : World} {b T : Nat} {x y z : Value} (h : w.heap[b]? = some (.cells #[x, y, z] T (0, 0))) :
    w.cell? ⟨b, 0, none⟩ = some x ∧ w.cell? ⟨b, 1, none⟩ = some y ∧ w.cell? ⟨b, 2, none⟩ = some z ∧ ∀ i, w.frozen? ⟨b, i, none⟩ = false :=
  ⟨by simp [World.cell?, h], by simp [World.cell?, h], by simp [World.cell?, h], fun i => by simp [World.frozen?, h]⟩
theorem cells4 {w : World} {b T : Nat} {x y z u : Value} (h : w.heap[b]? = some (.cells #[x, y, z, u] T (0, 0))) :
    w.cell? ⟨b, 0, none⟩ = some x ∧ w.cell? ⟨b, 1, none⟩ = some y ∧ w.cell? ⟨b, 2, none⟩ = some z ∧ w.cell? ⟨b, 3, none⟩ = some u ∧ ∀ i, w.frozen? ⟨b, i, none⟩ = false :=
  ⟨by simp [World.cell?, h], by simp [World.cell?, h], by simp [World.cell?, h], by simp [World.cell?, h], fun i => by simp [World.frozen?, h]⟩
def set3 (w : World) (b : Nat) (u0 u1 u2 : Value) : World := ((w.setCell ⟨b, 0, none⟩ u0).setCell ⟨b, 1, none⟩ u1).setCell ⟨b, 2, none⟩ u2
theorem set3_kp (w : World) (b : Nat) (u0 u1 u2 : Value) : Kp b w (set3 w b u0 u1 u2) := (((Kp.refl b w).set (p := ⟨b, 0, none⟩) (.inr rfl) u0).set (p := ⟨b, 1, none⟩) (.inr rfl) u1).set (p := ⟨b, 2, none⟩) (.inr rfl) u2
theorem set3_end {R : Nat} {w c : World} {T U B : Nat} {v : Value} {a n : Int} (hk : Kp R w c) (hv : Fault T U B c v a n) (hB : w.heap.size < B) (u0 u1 u2 : Value) :
    Fault T U w.heap.size (set3 c w.heap.size u0 u1 u2) v a n ∧ Kp R w (set3 c w.heap.size u0 u1 u2) :=
  ⟨(hv.kp (set3_kp c w.heap.size u0 u1 u2) hB).mono (Nat.le_of_lt hB), hk.own (set3_kp c w.heap.size u0 u1 u2) (Nat.le_refl _)⟩

theorem plainW_ok {end_ : Int} {holds : ByteArray → Bool} {l r : List Wd} {x : Wd} (h : plainW end_ holds l = .ok (x, r)) : l = x :: r ∧ holds x.s = true ∧ x.text = false := by
  unfold plainW at h
  cases hn : next end_ false l with
  | error e => rw [hn] at h; cases h
  | ok p =>
    obtain ⟨y, ys⟩ := p
    rw [hn] at h
    simp only at h
    cases hh : holds y.s with
    | false => rw [hh] at h; cases h
    | true =>
      rw [hh] at h
      cases h
      exact ⟨(next_ok hn).1, hh, (next_ok hn).2.1⟩

/-- What list answers. -/
def ListEnd (B : Nat) (w : World) (e : Ending) : Except Err (ByteArray × Int) → Prop
  | .ok (t, ra) => e = .returned (.tuple #[.agg #[.string t, .int .i64 ra, .slice none 0 0], .nilIface])
  | .error (a, n) => ∃ t ra v, e = .returned (.tuple #[.agg #[.string t, .int .i64 ra, .slice none 0 0], v]) ∧ Fault 82 83 B w v a n

set_option maxRecDepth 100000 in
set_option maxHeartbeats 8000000 in
theorem list_any (R S : Nat) (end_ : Int) (l : List Wd) (w : World) (h : Rd w R S end_ l) (hS : S ≤ w.heap.size) (hsz : ∀ x ∈ l, x.text = false → x.s.size ≤ 20000) (hL : Laid w) (h20 : 20 ≤ R) :
    Calls Tryz.prog 27 #[.pointer (some ⟨R, 0, none⟩)] w fun e w' => ListEnd w.heap.size w' e (headLine end_ l) ∧ Kp R w w' := by
  obtain ⟨TA, hTA⟩ : ∃ t, headLine end_ l = t := ⟨_, rfl⟩
  rw [hTA]
  have HTA := Lib.hid hTA
  clear hTA
  have hlt := h.lt
  have hB := (Gr.refl w).alloc (.cells #[.string ⟨#[]⟩, .int .i64 0, .slice none 0 0] 30)
  have hz0 := heap_new w (.cells #[.string ⟨#[]⟩, .int .i64 0, .slice none 0 0] 30)
  have hsR : w.heap.size ≠ R := by omega
  have Hc := Lib.hid (plain_any 59 _ R S end_ l _ (h.gr hB) (Nat.le_trans hS hB.size) list1_calls list1_holds hsz (hL.grow hB) h20)
  have HL := Lib.hid hL
  have Hsz := Lib.hid hsz
  clear h hL hsz
  go_enter Tryz.func27, Tryz.ntmps27
  go_wp2_with fail
  refine Hc.out.mono ?_
  rintro e w1 ⟨hn, hk⟩
  have hk1 := ((Kp.refl R w).gr hB).trans hk
  have hb1 := hk.heap hsR hz0
  have hw1 := hk.size
  clear hz0 hk
  obtain ⟨ans, hans⟩ : ∃ a, plainW end_ (fun s => s == listS) l = a := ⟨_, rfl⟩
  rw [hans] at hn
  have Hans := Lib.hid hans
  clear hans hB Hc
  match ans, hn, Hans with
  | .error (a, n), hn, Hans =>
    obtain ⟨x, v, rfl, hv⟩ := hn
    have HV := Lib.hid hv
    obtain ⟨vb, rfl, hvb, hvc⟩ := hv
    obtain ⟨xa, xs, xt, xb⟩ := x
    unfold wdAgg
    have hXg := (Gr.refl w1).alloc (.cells #[.int .i64 xa, .string xs, .bool xt, .bool xb] 114)
    obtain ⟨y0, y1, y2, yf⟩ := cells3 (heap_old hb1 (.cells #[.int .i64 xa, .string xs, .bool xt, .bool xb] 114))
    have HE := Lib.hid (set3_end (hk1.gr hXg) (HV.out.grow hXg) (by simp))
    clear hvc hb1
    go_wp2
    have hp : TA = .error (a, n) := by rw [← HTA.out, headLine, Hans.out]
    rw [hp]
    exact bodyPost_ret (v := .tuple #[.agg #[.string ⟨#[]⟩, .int .i64 0, .slice none 0 0], .iface 82 (.pointer (some ⟨vb, 0, none⟩))]) (by simp [results, Tryz.results27, go_sem, y0, y1, y2]) rfl ⟨⟨_, _, _, rfl, (HE.out _ _ _).1⟩, (HE.out _ _ _).2⟩
  | .ok (x, r), hn, Hans =>
    obtain ⟨rfl, hr⟩ := hn
    obtain ⟨xa, xs, xt, xb⟩ := x
    have Hl := Lib.hid (plainW_ok Hans.out)
    have hXg := (Gr.refl w1).alloc (.cells #[.int .i64 xa, .string xs, .bool xt, .bool xb] 114)
    have hLX := (HL.out.kp hk1 h20 (Nat.le_of_lt hlt)).grow hXg
    have Hszr : Hid (∀ x ∈ r, x.text = false → x.s.size ≤ 20000) := fun x hx => Hsz.out x (by rw [Hl.out.1]; exact List.mem_cons_of_mem _ hx)
    have Hc := Lib.hid (plain_any 60 _ R S end_ r _ (hr.gr hXg) (by have := hXg.size; simp at hw1; omega) list2_calls list2_holds Hszr.out hLX h20)
    have hb2 := heap_old hb1 (.cells #[.int .i64 xa, .string xs, .bool xt, .bool xb] 114)
    clear hb1 hLX hr
    unfold wdAgg
    go_wp2_with fail
    refine Hc.out.mono ?_
    rintro e w2 ⟨hn, hk⟩
    have hk2 := (hk1.gr hXg).trans hk
    have hb2 := hk.heap hsR hb2
    have hw2 := hk.size
    clear hk hk1 hXg
    obtain ⟨ans, hans⟩ : ∃ a, plainW end_ (fun s => decide (rateOf (bl s) ≠ 0)) r = a := ⟨_, rfl⟩
    rw [hans] at hn
    have Hans2 := Lib.hid hans
    clear hans Hc
    match ans, hn, Hans2 with
    | .error (a, n), hn, Hans2 =>
      obtain ⟨x, v, rfl, hv⟩ := hn
      have HV := Lib.hid hv
      obtain ⟨vb, rfl, hvb, hvc⟩ := hv
      obtain ⟨ya, ys, yt, yb⟩ := x
      unfold wdAgg
      have hXg := (Gr.refl w2).alloc (.cells #[.int .i64 ya, .string ys, .bool yt, .bool yb] 114)
      obtain ⟨y0, y1, y2, yf⟩ := cells3 (heap_old hb2 (.cells #[.int .i64 ya, .string ys, .bool yt, .bool yb] 114))
      have HE := Lib.hid (set3_end (hk2.gr hXg) (HV.out.grow hXg) (by simp at hw1 ⊢; omega))
      clear hvc hb2
      go_wp2
      have hp : TA = .error (a, n) := by rw [← HTA.out, headLine, Hans.out]; simp only [Hans2.out]
      rw [hp]
      exact bodyPost_ret (v := .tuple #[.agg #[.string ⟨#[]⟩, .int .i64 0, .slice none 0 0], .iface 82 (.pointer (some ⟨vb, 0, none⟩))]) (by simp [results, Tryz.results27, go_sem, y0, y1, y2]) rfl ⟨⟨_, _, _, rfl, (HE.out _ _ _).1⟩, (HE.out _ _ _).2⟩
    | .ok (y, r2), hn, Hans2 =>
      obtain ⟨rfl, hr⟩ := hn
      obtain ⟨ya, ys, yt, yb⟩ := y
      have Hl2 := Lib.hid (plainW_ok Hans2.out)
      have hXg := (Gr.refl w2).alloc (.cells #[.int .i64 ya, .string ys, .bool yt, .bool yb] 114)
      have Hc := Lib.hid (next_any R S end_ true r2 _ (hr.gr hXg))
      have hb3 := heap_old hb2 (.cells #[.int .i64 ya, .string ys, .bool yt, .bool yb] 114)
      have hY := heap_new w2 (.cells #[.int .i64 ya, .string ys, .bool yt, .bool yb] 114)
      have hYR : w2.heap.size ≠ R := by simp at hw1 hw2; omega
      clear hb2 hr
      unfold wdAgg
      go_wp2_with fail
      refine Hc.out.mono ?_
      rintro e w3 ⟨hn, hk⟩
      have hk3 := (hk2.gr hXg).trans hk
      have hb3 := hk.heap hsR hb3
      have hY := hk.heap hYR hY
      have hw3 := hk.size
      clear hk hk2 hXg
      obtain ⟨ans, hans⟩ : ∃ a, next end_ true r2 = a := ⟨_, rfl⟩
      rw [hans] at hn
      have Hans3 := Lib.hid hans
      clear hans Hc
      match ans, hn, Hans3 with
      | .error (a, n), hn, Hans3 =>
        obtain ⟨x, v, rfl, hv⟩ := hn
        have HV := Lib.hid hv
        obtain ⟨vb, rfl, hvb, hvc⟩ := hv
        obtain ⟨za, zs, zt, zb⟩ := x
        unfold wdAgg
        have hXg := (Gr.refl w3).alloc (.cells #[.int .i64 za, .string zs, .bool zt, .bool zb] 114)
        obtain ⟨y0, y1, y2, yf⟩ := cells3 (heap_old hb3 (.cells #[.int .i64 za, .string zs, .bool zt, .bool zb] 114))
        have HE := Lib.hid (set3_end (hk3.gr hXg) (HV.out.grow hXg) (by simp at hw1 hw2 ⊢; omega))
        clear hvc hb3 hY
        go_wp2
        have hp : TA = .error (a, n) := by rw [← HTA.out, headLine, Hans.out]; simp only [Hans2.out, Hans3.out]
        rw [hp]
        exact bodyPost_ret (v := .tuple #[.agg #[.string ⟨#[]⟩, .int .i64 0, .slice none 0 0], .iface 82 (.pointer (some ⟨vb, 0, none⟩))]) (by simp [results, Tryz.results27, go_sem, y0, y1, y2]) rfl ⟨⟨_, _, _, rfl, (HE.out _ _ _).1⟩, (HE.out _ _ _).2⟩
      | .ok (z, r3), hn, Hans3 =>
        obtain ⟨rfl, hr⟩ := hn
        obtain ⟨za, zs, zt, zb⟩ := z
        unfold wdAgg
        have hXg := (Gr.refl w3).alloc (.cells #[.int .i64 za, .string zs, .bool zt, .bool zb] 114)
        obtain ⟨y0, y1, y2, yf⟩ := cells3 (heap_old hb3 (.cells #[.int .i64 za, .string zs, .bool zt, .bool zb] 114))
        obtain ⟨f0, f1, f2, f3, ff⟩ := cells4 (heap_old hY (.cells #[.int .i64 za, .string zs, .bool zt, .bool zb] 114))
        obtain ⟨d0, d1, d2, d3, df⟩ := cells4 (heap_new w3 (.cells #[.int .i64 za, .string zs, .bool zt, .bool zb] 114))
        have Hk := Lib.hid ((hk3.gr hXg).drew)
        have Hd := Lib.hid (done_any R S end_ r3 (w3.alloc (.cells #[.int .i64 za, .string zs, .bool zt, .bool zb] 114)).drew ((hr.gr hXg).gr (Gr.refl _).drew))
        clear hb3 hY ff df hr hk3 hXg
        go_wp2
        cases hd : doneW r3 with
        | none =>
          have Hd' : Hid (Calls Tryz.prog 63 #[.pointer (some ⟨R, 0, none⟩)] (w3.alloc (.cells #[.int .i64 za, .string zs, .bool zt, .bool zb] 114)).drew fun e w' => DoneEnd (w3.alloc (.cells #[.int .i64 za, .string zs, .bool zt, .bool zb] 114)).drew.heap.size w' e (none) ∧ Gr (w3.alloc (.cells #[.int .i64 za, .string zs, .bool zt, .bool zb] 114)).drew w') := by
            have := Hd.out; rw [hd] at this; exact this
          have Hdd := Lib.hid hd
          clear hd Hd
          go_region_with ((first | (go_at_call 61; refine (rateOf_any _ _).mono ?_; rintro e w' ⟨rfl, rfl⟩) | (go_at_call 63; refine Hd'.out.mono ?_; rintro e w5 ⟨rfl, hg⟩; have a0 := hg.cell d0; have a1 := hg.cell d1; have a2 := hg.cell d2; have a3 := hg.cell d3; have e0 := hg.cell f0; have e1 := hg.cell f1; have e2 := hg.cell f2; have e3 := hg.cell f3; have o0 := hg.cell y0; have o1 := hg.cell y1; have o2 := hg.cell y2; have of : ∀ i, w5.frozen? ⟨w.heap.size, i, none⟩ = false := (fun i => (hg.below.frozen (by simp at hw1 hw2 hw3 ⊢; show w.heap.size < _; omega)).trans (yf i)); have HE := Lib.hid (fun u0 u1 u2 => (Hk.out.gr hg).own (set3_kp w5 w.heap.size u0 u1 u2) (Nat.le_refl _)); clear hg)))
          all_goals
            have hp : TA = .ok (zs, rateOf (bl ys)) := by rw [← HTA.out, headLine, Hans.out]; simp only [Hans2.out, Hans3.out, Hdd.out]
            go_wp2
            rw [hp]
            exact bodyPost_ret (v := .tuple #[.agg #[.string zs, .int .i64 (rateOf (bl ys)), .slice none 0 0], .nilIface]) (by simp [results, Tryz.results27, go_sem, o0, o1, o2]) rfl ⟨rfl, HE.out _ _ _⟩
        | some er =>
          obtain ⟨ea, en⟩ := er
          have Hd' : Hid (Calls Tryz.prog 63 #[.pointer (some ⟨R, 0, none⟩)] (w3.alloc (.cells #[.int .i64 za, .string zs, .bool zt, .bool zb] 114)).drew fun e w' => DoneEnd (w3.alloc (.cells #[.int .i64 za, .string zs, .bool zt, .bool zb] 114)).drew.heap.size w' e (some (ea, en)) ∧ Gr (w3.alloc (.cells #[.int .i64 za, .string zs, .bool zt, .bool zb] 114)).drew w') := by
            have := Hd.out; rw [hd] at this; exact this
          have Hdd := Lib.hid hd
          clear hd Hd
          go_region_with ((first | (go_at_call 61; refine (rateOf_any _ _).mono ?_; rintro e w' ⟨rfl, rfl⟩) | (go_at_call 63; refine Hd'.out.mono ?_; rintro e w5 ⟨⟨v, rfl, hv⟩, hg⟩; have a0 := hg.cell d0; have a1 := hg.cell d1; have a2 := hg.cell d2; have a3 := hg.cell d3; have e0 := hg.cell f0; have e1 := hg.cell f1; have e2 := hg.cell f2; have e3 := hg.cell f3; have o0 := hg.cell y0; have o1 := hg.cell y1; have o2 := hg.cell y2; have of : ∀ i, w5.frozen? ⟨w.heap.size, i, none⟩ = false := (fun i => (hg.below.frozen (by simp at hw1 hw2 hw3 ⊢; show w.heap.size < _; omega)).trans (yf i)); have HE := Lib.hid (set3_end (Hk.out.gr hg) hv (by simp at hw1 hw2 hw3 ⊢; show w.heap.size < _; omega)); clear hg hv)))
          all_goals
            have hp : TA = .error (ea, en) := by rw [← HTA.out, headLine, Hans.out]; simp only [Hans2.out, Hans3.out, Hdd.out]
            go_wp2
            rw [hp]
            exact bodyPost_ret (v := .tuple #[.agg #[.string zs, .int .i64 (rateOf (bl ys)), .slice none 0 0], v]) (by simp [results, Tryz.results27, go_sem, o0, o1, o2]) rfl ⟨⟨_, _, _, rfl, (HE.out _ _ _).1⟩, (HE.out _ _ _).2⟩
end Go.Proofs.Cuts
