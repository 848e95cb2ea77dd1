/-
  (*reader).event at a list that is not full. Conditions: the listed variables lie in the world; the words are short; the list's slice is of the call's own.
-/
import Derived.Test.YtgimedhfhpiipaaGreatDoorEventL
namespace Go.Proofs.Cuts
open Go.RowKit

/-- A store of event cell i into its box. -/
theorem evbox {w : World} {b i : Nat} {cs : Array Value} (h : w.heap[b]? = some (.cells cs 51 (0, 0))) (u : Value) : (w.setCell ⟨b, i, none⟩ u).heap[b]? = some (.cells (cs.setIfInBounds i u) 51 (0, 0)) := set_block h u

theorem heap_size_alloc (w : World) (o : Obj) : (w.alloc o).heap.size = w.heap.size + 1 := by simp
theorem box4_set {w : World} {b : Nat} {x y z s u0 u1 u2 u3 : Value} (h : w.heap[b]? = some (.cells #[x, y, z, s] 114 (0, 0))) : (set4 w b u0 u1 u2 u3).heap[b]? = some (.cells #[u0, u1, u2, u3] 114 (0, 0)) := by
  unfold set4
  exact set_block (set_block (set_block (set_block h u0) u1) u2) u3
theorem notePart_size {end_ : Int} {l r : List Wd} {s : ByteArray} (h : notePart end_ l = .ok (s, r)) : s.size ≤ 100 := by
  cases l with
  | nil => unfold notePart at h; cases h; decide
  | cons y ys =>
    unfold notePart at h
    cases hn : next end_ true (y :: ys) with
    | error e => rw [hn] at h; cases h
    | ok p =>
      obtain ⟨x, q⟩ := p
      rw [hn] at h
      cases h
      exact (next_ok hn).2.2.2 rfl
theorem timeW_ok {end_ rate : Int} {l r : List Wd} {x : Wd} {n : Int} (h : timeW end_ rate l = .ok (n, x, r)) : l = x :: r := by
  unfold timeW at h
  cases hn : next end_ false l with
  | error e => rw [hn] at h; cases h
  | ok p =>
    obtain ⟨y, ys⟩ := p
    rw [hn] at h
    simp only at h
    cases hh : number rate (bl y.s) with
    | none => rw [hh] at h; cases h
    | some m =>
      rw [hh] at h
      cases h
      exact (next_ok hn).1

set_option maxRecDepth 100000 in
set_option maxHeartbeats 8000000 in
theorem event_rest (P R S B : Nat) (end_ : Int) (cl : CL) (l : List Wd) (w : World) (h : Rd w R S end_ l) (hS : S ≤ w.heap.size) (hC : CLAt w B P cl) (hPR : P ≠ R) (hsz : ∀ x ∈ l, x.text = false → x.s.size ≤ 20000) (hL : Laid w) (h20 : 20 ≤ R)
    (h200 : cl.evs.length ≠ 200) (hlen : cl.evs.length < 200) (h20P : 20 ≤ P) (h20B : 20 ≤ B) (hBw : B ≤ w.heap.size)
    (hev : ∀ e ∈ cl.evs, e.reel.size ≤ maxLen ∧ e.note.size ≤ maxLen) :
    Calls Tryz.prog 28 #[.pointer (some ⟨R, 0, none⟩), .pointer (some ⟨P, 0, none⟩)] w fun e w' => EventEnd w.heap.size B P cl w' e (eventLine end_ cl l) ∧ Kv R P B w w' := by
  obtain ⟨TA, hTA⟩ : ∃ t, eventLine end_ cl l = t := ⟨_, rfl⟩
  rw [hTA]
  rw [eventLine_parts end_ cl l h200] at hTA
  have HTA := Lib.hid hTA
  have HC := Lib.hid hC
  obtain ⟨title, rate, evs⟩ := cl
  simp only at hev
  have Hev := Lib.hid hev
  clear hev
  obtain ⟨n, hn⟩ : ∃ n, evs.length = n := ⟨_, rfl⟩
  simp only [hn] at h200 hlen
  obtain ⟨v, hP, hown⟩ := hC
  simp only [hn] at hP hown
  obtain ⟨A, c, rfl⟩ : ∃ A c, v = .slice A n c := by
    rcases Joins.ownsRow_forms hown with ⟨rfl, h0⟩ | ⟨g, cap, rfl⟩
    · exact ⟨none, 0, by rw [h0]⟩
    · exact ⟨_, _, rfl⟩
  obtain ⟨cs0, hRc⟩ : ∃ cs, w.heap[R]? = some (.cells cs 64 (0, 0)) := by obtain ⟨A0, cc, _, hh, _⟩ := id h; exact ⟨_, hh⟩
  have HRc := Lib.hid hRc
  clear hRc
  have hlt := h.lt
  have hPlt := (Array.getElem?_eq_some_iff.1 hP).1
  have hB := (Gr.refl w).alloc (.cells #[.string ⟨#[]⟩, .int .i64 0, .int .i64 0, .int .i64 0, .string ⟨#[]⟩] 51)
  have hz0 := heap_new w (.cells #[.string ⟨#[]⟩, .int .i64 0, .int .i64 0, .int .i64 0, .string ⟨#[]⟩] 51)
  have hsR : w.heap.size ≠ R := by omega
  have Hc := Lib.hid (plain_any 64 _ R S end_ l _ (h.gr hB) (Nat.le_trans hS hB.size) event1_calls event1_holds hsz (hL.grow hB) h20)
  obtain ⟨p0, p1, p2, pf⟩ := cells3 hP
  have e200 : ((n : Int) == 200) = false := beq_eq_false_iff_ne.2 (by omega)
  have HL := Lib.hid hL
  have Hsz := Lib.hid hsz
  have Hown := Lib.hid hown
  have HP := Lib.hid hP
  have H200 := Lib.hid h200
  have Hn := Lib.hid hn
  clear h hL hsz hTA hown hP p0 p1 pf h200 hn
  go_enter Tryz.func28, Tryz.ntmps28
  go_wp2_with fail
  refine Hc.out.mono ?_
  rintro e w1 ⟨hn, hk⟩
  have hk1 := ((Kp.refl R w).gr hB).trans hk
  have hb1 := hk.heap hsR hz0
  have hw1 := hk.size
  clear hz0 hk p2 e200
  obtain ⟨ans, hans⟩ : ∃ a, plainW end_ (fun s => s == cutS || s == fadeS) l = a := ⟨_, rfl⟩
  rw [hans] at hn
  have Hans := Lib.hid hans
  clear hans hB Hc
  match ans, hn, Hans with
  | .error (a, n), hn, Hans =>
    obtain ⟨x, v, rfl, hv⟩ := hn
    have HV := Lib.hid hv
    obtain ⟨vb, rfl, hvb, hvc⟩ := hv
    obtain ⟨xa, xs, xt, xb⟩ := x
    unfold wdAgg
    have hXg := (Gr.refl w1).alloc (.cells #[.int .i64 xa, .string xs, .bool xt, .bool xb] 114)
    clear hvc hb1
    go_wp2
    have hp : TA = .error (a, n) := by rw [← HTA.out]; simp only [Hans.out]
    rw [hp]
    go_ret
    exact ⟨⟨_, rfl, (HV.out.grow hXg).mono (by simp)⟩, (hk1.gr hXg).kv⟩
  | .ok (x, r), hn, Hans =>
    obtain ⟨rfl, hr⟩ := hn
    obtain ⟨xa, xs, xt, xb⟩ := x
    have Hl := Lib.hid (plainW_ok Hans.out)
    have hXg := (Gr.refl w1).alloc (.cells #[.int .i64 xa, .string xs, .bool xt, .bool xb] 114)
    have hb2 := heap_old hb1 (.cells #[.int .i64 xa, .string xs, .bool xt, .bool xb] 114)
    have hX := heap_new w1 (.cells #[.int .i64 xa, .string xs, .bool xt, .bool xb] 114)
    have Hszr : Hid (∀ x ∈ r, x.text = false → x.s.size ≤ 20000) := fun x hx => Hsz.out x (by rw [Hl.out.1]; exact List.mem_cons_of_mem _ hx)
    have hr2 := hr.gr hXg
    have hk2 := hk1.gr hXg
    have Hr2 := Lib.hid hr2
    have Hk2 := Lib.hid hk2
    have HX := Lib.hid hX
    have Hb2 := Lib.hid hb2
    clear hr hk1 hXg hX hb2 hb1 hr2 hk2
    unfold wdAgg
    go_upto_if 40 with fail
    go_cut [] (fun wx => Kp R w wx ∧ ∃ fade l2, Hid (fadePart end_ ⟨xa, xs, xt, xb⟩ r = .ok (fade, l2)) ∧ Rd wx R S end_ l2 ∧ Hid (∀ x ∈ l2, x.text = false → x.s.size ≤ 20000) ∧
      wx.heap[w.heap.size]? = some (.cells #[.string ⟨#[]⟩, .int .i64 0, .int .i64 0, .int .i64 fade, .string ⟨#[]⟩] 51 (0, 0)) ∧ wx.heap[w1.heap.size]? = some (.cells #[.int .i64 xa, .string xs, .bool xt, .bool xb] 114 (0, 0)) ∧ w1.heap.size < wx.heap.size)
    case first =>
      have ef : (xs == fadeS) = (xs.toList == [102, 97, 100, 101]) := by rw [beq_toListBytes]; simp [fadeS, ba]
      have Ef := Lib.hid ef
      clear ef
      cases hf : (xs.toList == [102, 97, 100, 101]) with
      | false =>
        have Hf := Lib.hid hf
        clear hf
        go_wp2
        go_meet
        case rel =>
        exact ⟨Hk2.out, 0, r, Lib.hid (by simp only [fadePart, Ef.out, Hf.out]; rfl), Hr2.out, Hszr, Hb2.out, HX.out, by simp⟩
      | true =>
        have Hf := Lib.hid hf
        clear hf
        have HLX := Lib.hid (HL.out.kp Hk2.out h20 (Nat.le_of_lt hlt))
        have Hcf := Lib.hid (plain_any 65 _ R S end_ r _ Hr2.out (Nat.le_trans hS Hk2.out.size) isFade_calls isFade_holds Hszr.out HLX.out h20)
        go_wp2_with fail
        refine Hcf.out.mono ?_
        rintro e w2 ⟨hn, hk⟩
        have hk3 := Hk2.out.trans hk
        have hb3 := hk.heap hsR Hb2.out
        have hX3 := hk.heap (by simp at hw1; omega) HX.out
        have hw2 := hk.size
        clear hk
        obtain ⟨ans, hans⟩ : ∃ a, plainW end_ (fun s => isFade (bl s)) r = a := ⟨_, rfl⟩
        rw [hans] at hn
        have Hans2 := Lib.hid hans
        clear hans Hcf
        match ans, hn, Hans2 with
        | .error (a, n), hn, Hans2 =>
          obtain ⟨x, v, rfl, hv⟩ := hn
          have HV := Lib.hid hv
          obtain ⟨vb, rfl, hvb, hvc⟩ := hv
          obtain ⟨ya, ys, yt, yb⟩ := x
          unfold wdAgg
          have hXg := (Gr.refl w2).alloc (.cells #[.int .i64 ya, .string ys, .bool yt, .bool yb] 114)
          clear hvc hb3 hX3
          go_wp2
          have hp : TA = .error (a, n) := by
            have hq : fadePart end_ ⟨xa, xs, xt, xb⟩ r = .error (a, n) := by simp only [fadePart, Ef.out, Hf.out, Hans2.out]; rfl
            rw [← HTA.out]; simp only [Hans.out, hq]
          rw [hp]
          go_ret
          exact ⟨⟨_, rfl, (HV.out.grow hXg).mono (by simp at hw1 ⊢; omega)⟩, (hk3.gr hXg).kv⟩
        | .ok (y, r2), hn, Hans2 =>
          obtain ⟨rfl, hr3⟩ := hn
          obtain ⟨ya, ys, yt, yb⟩ := y
          have Hl2 := Lib.hid (plainW_ok Hans2.out)
          have hXg := (Gr.refl w2).alloc (.cells #[.int .i64 ya, .string ys, .bool yt, .bool yb] 114)
          obtain ⟨fd, hfd, hfv⟩ := isFade_atoi Hl2.out.2.1
          have hca := atoi_any ys (w2.alloc (.cells #[.int .i64 ya, .string ys, .bool yt, .bool yb] 114)) (Hszr.out _ (by rw [Hl2.out.1]; exact List.mem_cons_self ..) Hl2.out.2.2) ((HL.out.kp hk3 h20 (Nat.le_of_lt hlt)).grow hXg)
          rw [hfd] at hca
          have Hca := Lib.hid hca
          have Hfv := Lib.hid hfv
          clear hca hfd hfv
          unfold wdAgg
          go_wp2_with fail
          refine Hca.out.mono ?_
          rintro e w3 ⟨he, hg⟩
          obtain rfl := he
          have hgg := hXg.trans hg
          have hb4 := (hgg.below.block _ (Array.getElem?_eq_some_iff.1 hb3).1).trans hb3
          have hX4 := (hgg.below.block _ (Array.getElem?_eq_some_iff.1 hX3).1).trans hX3
          obtain ⟨c0, c1, c2, c3, c4, cf⟩ := cells5 hb4
          have HB4 := Lib.hid hb4
          have HX4 := Lib.hid hX4
          have hk4 := hk3.gr hgg
          have hr4 := hr3.gr hgg
          have Hk4 := Lib.hid hk4
          have Hr4 := Lib.hid hr4
          clear hb3 hX3 hb4 hX4 hk3 hr3 hk4 hr4
          go_wp2
          go_meet
          case rel =>
          refine ⟨Hk4.out.own (set1_kp w3 w.heap.size 3 _) (Nat.le_refl _), fd, r2, Lib.hid ?_, Hr4.out.own (set1_kp w3 w.heap.size 3 _) hsR hS, ?_, box_set HB4.out rfl, heap_set_far HX4.out (by simp at hw1; omega), ?_⟩
          · simp only [fadePart, Ef.out, Hf.out, Hans2.out, Hfv.out]; rfl
          · exact fun x hx => Hszr.out x (by rw [Hl2.out.1]; exact List.mem_cons_of_mem _ hx)
          · have := hgg.size; simp at hw2 this ⊢; omega
    case rest =>
      obtain ⟨hkc, fade, l2, HF, hrc, Hsz2, hbE, hbF, hwc⟩ := hcut
      have HT2 : Hid (eventTail end_ ⟨title, rate, evs⟩ ⟨xa, xs, xt, xb⟩ fade l2 = TA) := by
        have := HTA.out; simp only [Hans.out, HF.out] at this; exact this
      have HbE := Lib.hid hbE
      have HbF := Lib.hid hbF
      have Hkc := Lib.hid hkc
      have Hcn := Lib.hid (plain_any 67 _ R S end_ l2 wc hrc (Nat.le_trans hS hkc.size) event3_calls event3_holds Hsz2.out (HL.out.kp hkc h20 (Nat.le_of_lt hlt)) h20)
      clear hkc hrc hbE hbF Hans Hl Hszr Hr2 Hk2 HX Hb2 HF HTA
      go_wp2_with fail
      refine Hcn.out.mono ?_
      rintro e w2 ⟨hn, hk⟩
      have hk2 := Hkc.out.trans hk
      have hE2 := hk.heap hsR HbE.out
      have hF2 := hk.heap (by simp at hw1; omega) HbF.out
      have hw2 := hk.size
      clear hk
      obtain ⟨ans, hans⟩ : ∃ a, plainW end_ (fun s => nameOk (bl s)) l2 = a := ⟨_, rfl⟩
      rw [hans] at hn
      have Hans := Lib.hid hans
      clear hans Hcn
      match ans, hn, Hans with
      | .error (a, n), hn, Hans =>
        obtain ⟨x, v, rfl, hv⟩ := hn
        have HV := Lib.hid hv
        obtain ⟨vb, rfl, hvb, hvc⟩ := hv
        obtain ⟨ya, ys, yt, yb⟩ := x
        unfold wdAgg
        have hXg := (Gr.refl w2).alloc (.cells #[.int .i64 ya, .string ys, .bool yt, .bool yb] 114)
        clear hvc hE2 hF2
        go_wp2
        have hp : TA = .error (a, n) := by rw [← HT2.out, eventTail, Hans.out]
        rw [hp]
        go_ret
        exact ⟨⟨_, rfl, (HV.out.grow hXg).mono (by have := Hkc.out.size; omega)⟩, (hk2.gr hXg).kv⟩
      | .ok (nm, l3), hn, Hans =>
        obtain ⟨rfl, hr3⟩ := hn
        obtain ⟨ya, ys, yt, yb⟩ := nm
        have Hl2 := Lib.hid (plainW_ok Hans.out)
        have Hsz3 : Hid (∀ x ∈ l3, x.text = false → x.s.size ≤ 20000) := fun x hx => Hsz2.out x (by rw [Hl2.out.1]; exact List.mem_cons_of_mem _ hx)
        have hXg := (Gr.refl w2).alloc (.cells #[.int .i64 ya, .string ys, .bool yt, .bool yb] 114)
        have hE3 := heap_old hE2 (.cells #[.int .i64 ya, .string ys, .bool yt, .bool yb] 114)
        have hF3 := heap_old hF2 (.cells #[.int .i64 ya, .string ys, .bool yt, .bool yb] 114)
        obtain ⟨c0, c1, c2, c3, c4, cf⟩ := cells5 hE3
        have hk3 := hk2.gr hXg
        have hkS := hk3.own (set1_kp (w2.alloc (.cells #[.int .i64 ya, .string ys, .bool yt, .bool yb] 114)) w.heap.size 0 (.string ys)) (Nat.le_refl _)
        have hrS := (hr3.gr hXg).own (set1_kp (w2.alloc (.cells #[.int .i64 ya, .string ys, .bool yt, .bool yb] 114)) w.heap.size 0 (.string ys)) hsR hS
        have hES := box_set (i := 0) (u := .string ys) (cs' := #[.string ys, .int .i64 0, .int .i64 0, .int .i64 fade, .string ⟨#[]⟩]) hE3 rfl
        have hFS := heap_set_far (i := 0) (u := .string ys) (b := w.heap.size) hF3 (by simp at hw1; omega)
        obtain ⟨r0, r1, r2, rf⟩ := cells3 (hkS.heap hPR HP.out)
        have Hct := Lib.hid (time_any rate R S end_ l3 _ hrS (Nat.le_trans hS hkS.size) Hsz3.out (HL.out.kp hkS h20 (Nat.le_of_lt hlt)) h20)
        have HkS := Lib.hid hkS
        have HES := Lib.hid hES
        have HFS := Lib.hid hFS
        have hszS : (w2.alloc (.cells #[.int .i64 ya, .string ys, .bool yt, .bool yb] 114)).heap.size ≤ ((w2.alloc (.cells #[.int .i64 ya, .string ys, .bool yt, .bool yb] 114)).setCell ⟨w.heap.size, 0, none⟩ (.string ys)).heap.size := (set1_kp _ _ _ _).size
        clear hE2 hF2 hE3 hF3 hk2 hk3 hkS hrS hES hFS hr3 hXg
        unfold wdAgg
        go_wp2_with fail
        refine Hct.out.mono ?_
        rintro e w4 ⟨hn, hk⟩
        have hk4 := HkS.out.trans hk
        have hE4 := hk.heap hsR HES.out
        have hF4 := hk.heap (by simp at hw1; omega) HFS.out
        have hw4 := hk.size
        have hwE : w.heap.size < w4.heap.size := (Array.getElem?_eq_some_iff.1 hE4).1
        have hwF : w1.heap.size < w4.heap.size := (Array.getElem?_eq_some_iff.1 hF4).1
        have hBS := HkS.out.size
        clear hk r0 r1 r2 rf c0 c1 c2 c3 c4 cf HkS HES HFS hszS
        obtain ⟨ans, hans⟩ : ∃ a, timeW end_ rate l3 = a := ⟨_, rfl⟩
        rw [hans] at hn
        have Hans3 := Lib.hid hans
        clear hans Hct
        match ans, hn, Hans3 with
        | .error (a, n), hn, Hans3 =>
          obtain ⟨kk, x, v, rfl, hv⟩ := hn
          have HV := Lib.hid hv
          obtain ⟨vb, rfl, hvb, hvc⟩ := hv
          obtain ⟨za, zs, zt, zb⟩ := x
          obtain ⟨c0, c1, c2, c3, c4, cf⟩ := cells5 hE4
          have hkS := hk4.own (set1_kp w4 w.heap.size 1 (.int .i64 kk)) (Nat.le_refl _)
          have HvS := Lib.hid ((HV.out.kp (set1_kp w4 w.heap.size 1 (.int .i64 kk)) (by simp at hw1 hw2 hwc hBS ⊢; omega)).mono hBS)
          have HkS := Lib.hid hkS
          unfold wdAgg
          clear hvc hE4 hF4 hkS
          go_wp2
          have hp : TA = .error (a, n) := by rw [← HT2.out, eventTail, Hans.out]; simp only [Hans3.out]
          rw [hp]
          go_ret
          exact ⟨⟨_, rfl, HvS.out⟩, HkS.out.kv⟩
        | .ok (ti, x, l4), hn, Hans3 =>
          obtain ⟨rfl, hr4⟩ := hn
          obtain ⟨za, zs, zt, zb⟩ := x
          have Hsz4 : Hid (∀ x ∈ l4, x.text = false → x.s.size ≤ 20000) := fun x hx => Hsz3.out x (by rw [timeW_ok Hans3.out]; exact List.mem_cons_of_mem _ hx)
          obtain ⟨c0, c1, c2, c3, c4, cf⟩ := cells5 hE4
          have hkS := hk4.own (set1_kp w4 w.heap.size 1 (.int .i64 ti)) (Nat.le_refl _)
          have hrS := hr4.own (set1_kp w4 w.heap.size 1 (.int .i64 ti)) hsR hS
          have hES := box_set (i := 1) (u := .int .i64 ti) (cs' := #[.string ys, .int .i64 ti, .int .i64 0, .int .i64 fade, .string ⟨#[]⟩]) hE4 rfl
          have hFS := heap_set_far (i := 1) (u := .int .i64 ti) (b := w.heap.size) hF4 (by simp at hw1; omega)
          have hOg := (Gr.refl (w4.setCell ⟨w.heap.size, 1, none⟩ (.int .i64 ti))).alloc (.cells #[.int .i64 0, .string ⟨#[]⟩, .bool false, .bool false] 114)
          have hsz5 : (w4.setCell ⟨w.heap.size, 1, none⟩ (.int .i64 ti)).heap.size = w4.heap.size := by simp [World.setCell]
          have hO := heap_new (w4.setCell ⟨w.heap.size, 1, none⟩ (.int .i64 ti)) (.cells #[.int .i64 0, .string ⟨#[]⟩, .bool false, .bool false] 114)
          have hE5 := heap_old hES (.cells #[.int .i64 0, .string ⟨#[]⟩, .bool false, .bool false] 114)
          have hF5 := heap_old hFS (.cells #[.int .i64 0, .string ⟨#[]⟩, .bool false, .bool false] 114)
          have hk5 := hkS.gr hOg
          have hr5 := hrS.gr hOg
          obtain ⟨r0, r1, r2, rf⟩ := cells3 (hk5.heap hPR HP.out)
          have Hct := Lib.hid (time_any rate R S end_ l4 _ hr5 (Nat.le_trans hS hk5.size) Hsz4.out (HL.out.kp hk5 h20 (Nat.le_of_lt hlt)) h20)
          rw [hsz5] at hO
          have HkS := Lib.hid hk5
          have HES := Lib.hid hE5
          have HFS := Lib.hid hF5
          have HOS := Lib.hid hO
          clear hE4 hF4 hk4 hr4 hkS hrS hES hFS hO hE5 hF5 hk5 hr5 hOg
          unfold wdAgg
          go_wp2_with fail
          refine Hct.out.mono ?_
          rintro e w6 ⟨hn, hk⟩
          have hk6 := HkS.out.trans hk
          have hE6 := hk.heap hsR HES.out
          have hF6 := hk.heap (by simp at hw1; omega) HFS.out
          have hO6 := hk.heap (by omega) HOS.out
          have hw6 : w4.heap.size < w6.heap.size := (Array.getElem?_eq_some_iff.1 hO6).1
          have hBS6 := HkS.out.size
          clear hk r0 r1 r2 rf c0 c1 c2 c3 c4 cf HkS HES HFS HOS
          obtain ⟨ans, hans⟩ : ∃ a, timeW end_ rate l4 = a := ⟨_, rfl⟩
          rw [hans] at hn
          have Hans4 := Lib.hid hans
          clear hans Hct
          obtain ⟨c0, c1, c2, c3, c4, cf⟩ := cells5 hE6
          obtain ⟨o0, o1, o2, o3, of⟩ := cells4 hO6
          match ans, hn, Hans4 with
          | .error (a, n), hn, Hans4 =>
            obtain ⟨kk, x, v, rfl, hv⟩ := hn
            have HV := Lib.hid hv
            obtain ⟨vb, rfl, hvb, hvc⟩ := hv
            obtain ⟨ua, us, ut, ub⟩ := x
            have hkS := (hk6.own (set1_kp w6 w.heap.size 2 (.int .i64 kk)) (Nat.le_refl _)).own (set4_kp _ w4.heap.size (.int .i64 ua) (.string us) (.bool ut) (.bool ub)) (Nat.le_of_lt hwE)
            have hvS := ((HV.out.kp (set1_kp w6 w.heap.size 2 (.int .i64 kk)) (by simp only [heap_size_alloc]; omega)).kp (set4_kp _ w4.heap.size (.int .i64 ua) (.string us) (.bool ut) (.bool ub)) (by simp only [heap_size_alloc]; omega)).mono hBS6
            have HkS := Lib.hid hkS
            have HvS := Lib.hid hvS
            unfold wdAgg
            clear hvc hE6 hF6 hO6 hkS hvS
            go_wp2
            have hp : TA = .error (a, n) := by rw [← HT2.out, eventTail, Hans.out]; simp only [Hans3.out, Hans4.out]
            rw [hp]
            go_ret
            exact ⟨⟨_, rfl, HvS.out⟩, HkS.out.kv⟩
          | .ok (tq, x, l5), hn, Hans4 =>
            obtain ⟨rfl, hr6⟩ := hn
            obtain ⟨ua, us, ut, ub⟩ := x
            have Hsz5 : Hid (∀ x ∈ l5, x.text = false → x.s.size ≤ 20000) := fun x hx => Hsz4.out x (by rw [timeW_ok Hans4.out]; exact List.mem_cons_of_mem _ hx)
            have hkS := (hk6.own (set1_kp w6 w.heap.size 2 (.int .i64 tq)) (Nat.le_refl _)).own (set4_kp _ w4.heap.size (.int .i64 ua) (.string us) (.bool ut) (.bool ub)) (Nat.le_of_lt hwE)
            have hrS := (hr6.own (set1_kp w6 w.heap.size 2 (.int .i64 tq)) hsR hS).own (set4_kp _ w4.heap.size (.int .i64 ua) (.string us) (.bool ut) (.bool ub)) (by omega) (by omega)
            have hES := (set4_kp (w6.setCell ⟨w.heap.size, 2, none⟩ (.int .i64 tq)) w4.heap.size (.int .i64 ua) (.string us) (.bool ut) (.bool ub)).heap (by omega) (box_set (i := 2) (u := .int .i64 tq) (cs' := #[.string ys, .int .i64 ti, .int .i64 tq, .int .i64 fade, .string ⟨#[]⟩]) hE6 rfl)
            have hFS := (set4_kp (w6.setCell ⟨w.heap.size, 2, none⟩ (.int .i64 tq)) w4.heap.size (.int .i64 ua) (.string us) (.bool ut) (.bool ub)).heap (by omega) (heap_set_far (i := 2) (u := .int .i64 tq) (b := w.heap.size) hF6 (by simp at hw1; omega))
            have hOS := box4_set (u0 := .int .i64 ua) (u1 := .string us) (u2 := .bool ut) (u3 := .bool ub) (heap_set_far (i := 2) (u := .int .i64 tq) (b := w.heap.size) hO6 (by omega))
            unfold set4 at hkS hrS hES hFS hOS
            have HkS := Lib.hid hkS
            have HrS := Lib.hid hrS
            have HES := Lib.hid hES
            have HFS := Lib.hid hFS
            have HOS := Lib.hid hOS
            obtain ⟨Ar, cr, hcr, hr0, hr1, hWr⟩ := hr6.cells
            obtain ⟨m, hm⟩ : ∃ m, l5.length = m := ⟨_, rfl⟩
            rw [hm] at hr0 hcr
            have Hm := Lib.hid hm
            clear hm
            clear hE6 hF6 hO6 hkS hrS hES hFS hOS hr6 hk6 hWr hr1
            unfold wdAgg
            go_upto_if 101 with fail
            obtain ⟨ws, hws⟩ : ∃ ws, ((((w6.setCell ⟨w.heap.size, 2, none⟩ (.int .i64 tq)).setCell ⟨w4.heap.size, 0, none⟩ (.int .i64 ua)).setCell ⟨w4.heap.size, 1, none⟩ (.string us)).setCell ⟨w4.heap.size, 2, none⟩ (.bool ut)).setCell ⟨w4.heap.size, 3, none⟩ (.bool ub) = ws := ⟨_, rfl⟩
            rw [hws] at HkS HrS HES HFS HOS
            rw [hws]
            clear hws hr0 hcr c0 c1 c2 c3 c4 cf o0 o1 o2 o3 of
            go_cut [] (fun wx => Kp R w wx ∧ ∃ note l6, Hid (notePart end_ l5 = .ok (note, l6)) ∧ Rd wx R S end_ l6 ∧ wx.heap[w.heap.size]? = some (.cells #[.string ys, .int .i64 ti, .int .i64 tq, .int .i64 fade, .string note] 51 (0, 0)) ∧
              wx.heap[w1.heap.size]? = some (.cells #[.int .i64 xa, .string xs, .bool xt, .bool xb] 114 (0, 0)) ∧ wx.heap[w4.heap.size]? = some (.cells #[.int .i64 ua, .string us, .bool ut, .bool ub] 114 (0, 0)))
            case first =>
              by_cases hm0 : m = 0
              · subst hm0
                obtain rfl : l5 = [] := List.length_eq_zero_iff.1 Hm.out
                go_wp2
                go_meet
                case rel =>
                exact ⟨HkS.out, ba [], [], Lib.hid rfl, HrS.out, HES.out, HFS.out, HOS.out⟩
              · obtain ⟨m', rfl⟩ : ∃ m', m = m' + 1 := ⟨m - 1, by omega⟩
                have hl5 : ∃ y l6, l5 = y :: l6 := by
                  cases h5 : l5 with
                  | nil => have := Hm.out; rw [h5] at this; simp at this
                  | cons y l6 => exact ⟨y, l6, rfl⟩
                have Hl5 := Lib.hid hl5
                clear hm0 hl5
                have Hcx := Lib.hid (next_any R S end_ true l5 _ HrS.out)
                go_wp2_with fail
                refine Hcx.out.mono ?_
                rintro e w7 ⟨hn, hk⟩
                have hk7 := HkS.out.trans hk
                have hE7 := hk.heap hsR HES.out
                have hF7 := hk.heap (by simp at hw1; omega) HFS.out
                have hO7 := hk.heap (by omega) HOS.out
                have hBS7 := HkS.out.size
                have hwE7 : w.heap.size < w7.heap.size := (Array.getElem?_eq_some_iff.1 hE7).1
                clear hk
                obtain ⟨ans, hans⟩ : ∃ a, next end_ true l5 = a := ⟨_, rfl⟩
                rw [hans] at hn
                have Hans5 := Lib.hid hans
                clear hans Hcx
                match ans, hn, Hans5 with
                | .error (a, n), hn, Hans5 =>
                  obtain ⟨x, v, rfl, hv⟩ := hn
                  have HV := Lib.hid hv
                  obtain ⟨vb, rfl, hvb, hvc⟩ := hv
                  obtain ⟨va, vs, vt, vbb⟩ := x
                  have hXg := (Gr.refl w7).alloc (.cells #[.int .i64 va, .string vs, .bool vt, .bool vbb] 114)
                  unfold wdAgg
                  clear hvc hE7 hF7 hO7
                  go_wp2
                  have hp : TA = .error (a, n) := by
                    have hq : notePart end_ l5 = .error (a, n) := by
                      obtain ⟨y, l6, h5⟩ := Hl5.out
                      have := Hans5.out
                      rw [h5] at this ⊢
                      simp only [notePart, this]
                    rw [← HT2.out, eventTail, Hans.out]; simp only [Hans3.out, Hans4.out, eventNote, hq]
                  rw [hp]
                  go_ret
                  exact ⟨⟨_, rfl, (HV.out.grow hXg).mono hBS7⟩, (hk7.gr hXg).kv⟩
                | .ok (x, l6), hn, Hans5 =>
                  obtain ⟨rfl, hr7⟩ := hn
                  obtain ⟨va, vs, vt, vbb⟩ := x
                  have hXg := (Gr.refl w7).alloc (.cells #[.int .i64 va, .string vs, .bool vt, .bool vbb] 114)
                  obtain ⟨c0, c1, c2, c3, c4, cf⟩ := cells5 (heap_old hE7 (.cells #[.int .i64 va, .string vs, .bool vt, .bool vbb] 114))
                  have HE7 := Lib.hid hE7
                  have HF7 := Lib.hid hF7
                  have HO7 := Lib.hid hO7
                  have Hk7 := Lib.hid hk7
                  have Hr7 := Lib.hid hr7
                  clear hE7 hF7 hO7 hk7 hr7 hXg
                  unfold wdAgg
                  go_wp2
                  go_meet
                  case rel =>
                  refine ⟨(Hk7.out.own (set1_kp w7 w.heap.size 4 _) (Nat.le_refl _)).alloc _, vs, l6, Lib.hid ?_, (Hr7.out.own (set1_kp w7 w.heap.size 4 _) hsR hS).gr ((Gr.refl _).alloc _), heap_old (box_set HE7.out rfl) _, heap_old (heap_set_far HF7.out (by simp at hw1; omega)) _, heap_old (heap_set_far HO7.out (by omega)) _⟩
                  obtain ⟨y, l6', h5⟩ := Hl5.out
                  have := Hans5.out
                  rw [h5] at this ⊢
                  simp only [notePart, this]
            case rest =>
              obtain ⟨hkc2, note, l6, HNP, hrc2, hEc, hFc, hOc⟩ := hcut
              have HT3 : Hid (eventDone ⟨title, rate, evs⟩ ⟨xa, xs, xt, xb⟩ ⟨ua, us, ut, ub⟩ ⟨ys, ti, tq, fade, note⟩ l6 = TA) := by
                have := HT2.out
                rw [eventTail, Hans.out] at this
                simp only [Hans3.out, Hans4.out, eventNote, HNP.out] at this
                exact this
              have Hys : Hid (ys.size ≤ 20000) := Lib.hid (Hsz2.out ⟨ya, ys, yt, yb⟩ (by rw [Hl2.out.1]; exact List.mem_cons_self ..) Hl2.out.2.2)
              have Hno : Hid (note.size ≤ 100) := Lib.hid (notePart_size HNP.out)
              obtain ⟨N2, hN2⟩ : ∃ k, w4.heap.size = k := ⟨_, rfl⟩
              obtain ⟨N1, hN1⟩ : ∃ k, w1.heap.size = k := ⟨_, rfl⟩
              rw [hN2] at hOc
              rw [hN1] at hFc
              have Hkc2 := Lib.hid hkc2
              have Hdn := Lib.hid (done_any R S end_ l6 wc hrc2)
              have HEc := Lib.hid hEc
              have HFc := Lib.hid hFc
              have HOc := Lib.hid hOc
              have hN1w : w.heap.size < N1 := by simp at hw1; omega
              clear hkc2 hrc2 hEc hFc hOc HkS HrS HES HFS HOS Hm Hsz5 Hsz4 Hsz3 Hsz2 Hans Hans3 Hans4 HNP HT2 Hl2
              rw [hN2, hN1]
              clear hwE hwF hBS hBS6 hw2 hw4 hw6 hwc hN1 hN2
              go_wp2_with fail
              refine Hdn.out.mono ?_
              rintro e w8 ⟨hd, hg8⟩
              have hk8 := Hkc2.out.gr hg8
              have hE8 := (hg8.below.block _ (Array.getElem?_eq_some_iff.1 HEc.out).1).trans HEc.out
              have hF8 := (hg8.below.block _ (Array.getElem?_eq_some_iff.1 HFc.out).1).trans HFc.out
              have hO8 := (hg8.below.block _ (Array.getElem?_eq_some_iff.1 HOc.out).1).trans HOc.out
              have hP8 := hk8.heap hPR HP.out
              have hown8 := own_kp Hown.out hk8 HRc.out
              cases hdw : doneW l6 with
              | some er =>
                obtain ⟨ea, en⟩ := er
                rw [hdw] at hd
                obtain ⟨v, rfl, hv⟩ := hd
                have Hdw := Lib.hid hdw
                clear hdw hE8 hF8 hO8 hP8 hown8
                have hpp : TA = .error (ea, en) := by rw [← HT3.out, eventDone, Hdw.out]
                have Hpp := Lib.hid hpp
                have Hv := Lib.hid hv
                obtain ⟨vb, rfl, hvb, hvc⟩ := hv
                clear hpp hvc
                go_wp2
                go_ret
                rw [Hpp.out]
                exact ⟨⟨_, rfl, Hv.out.mono Hkc2.out.size⟩, hk8.kv⟩
              | none =>
                rw [hdw] at hd
                obtain rfl := hd
                have Hdw := Lib.hid hdw
                clear hdw
                have HT4 : Hid (eventCheck ⟨title, rate, evs⟩ ⟨xa, xs, xt, xb⟩ ⟨ua, us, ut, ub⟩ ⟨ys, ti, tq, fade, note⟩ = TA) := by
                  have := HT3.out; rw [eventDone, Hdw.out] at this; exact this
                obtain ⟨c0, c1, c2, c3, c4, cf⟩ := cells5 hE8
                obtain ⟨r0, r1, r2, rf⟩ := cells3 hP8
                have HE8 := Lib.hid hE8
                have HF8 := Lib.hid hF8
                have HO8 := Lib.hid hO8
                have HP8 := Lib.hid hP8
                have Hown8 := Lib.hid hown8
                have Hk8 := Lib.hid hk8
                clear hE8 hF8 hO8 hP8 hown8 hk8 HT3 Hdn HEc HFc HOc
                go_upto_region 31 with fail
                go_cut [] (fun wx => ∃ g cap, wx.heap[P]? = some (.cells #[.string title, .int .i64 rate, .slice (some ⟨g, 0, none⟩) (n + 1) cap] 30 (0, 0)) ∧ wx.ownsRow B 51 5 (.slice (some ⟨g, 0, none⟩) (n + 1) cap) (n + 1) (evsCells evs ++ evCells ⟨ys, ti, tq, fade, note⟩) ∧ Kv R P B w wx ∧
                  wx.heap[N1]? = some (.cells #[.int .i64 xa, .string xs, .bool xt, .bool xb] 114 (0, 0)) ∧ wx.heap[N2]? = some (.cells #[.int .i64 ua, .string us, .bool ut, .bool ub] 114 (0, 0)) ∧ n + 1 ≤ cap)
                case first =>
                  obtain ⟨i0, hi, hzz⟩ := Option.map_eq_some_iff.1 info51
                  simp only [Prod.mk.injEq] at hzz
                  obtain ⟨hz0, hz1, hz2⟩ := hzz
                  have r2a := old_alloc r2 (.cells #[.string ys, .int .i64 ti, .int .i64 tq, .int .i64 fade, .string note] 51)
                  go_region_law (first | (refine step_append_lies _ rfl (.tmp 122) (.tmp 124) 28 rfl B 51 i0 (.agg #[.string ⟨#[]⟩, .int .i64 0, .int .i64 0, .int .i64 0, .string ⟨#[]⟩]) 5 56 Tryz.underlying28 hi hz0 hz1 hz2 rfl (by decide) _ n (evsCells evs) rfl (own_gr Hown8.out (by repeat (first | exact Gr.refl _ | apply Gr.alloc | apply Gr.drew))) ⟨w8.heap.size, 0, none⟩ 1 1 (evCells ⟨ys, ti, tq, fade, note⟩) rfl rfl (fun j u hj => cells_new rfl _ _ j u hj) (by intro u hu; simp [evCells] at hu; rcases hu with rfl | rfl | rfl | rfl | rfl <;> rfl) (by decide) (by unfold maxLen; omega) (by omega) (Nat.le_trans hBw (Nat.le_trans Hk8.out.size (Gr.size (by repeat (first | exact Gr.refl _ | apply Gr.alloc | apply Gr.drew))))) _ rfl ?_; intro g cap w9 hown9 hgr hat hlt9; have hP9 := row_far (own_gr Hown8.out (by repeat (first | exact Gr.refl _ | apply Gr.alloc | apply Gr.drew))) hgr (heap_old HP8.out _) (by decide); obtain ⟨s0, s1, s2, sf⟩ := cells3 hP9; have hF9 := row_far (own_gr Hown8.out (by repeat (first | exact Gr.refl _ | apply Gr.alloc | apply Gr.drew))) hgr (heap_old HF8.out _) (by decide); have hO9 := row_far (own_gr Hown8.out (by repeat (first | exact Gr.refl _ | apply Gr.alloc | apply Gr.drew))) hgr (heap_old HO8.out _) (by decide); have hkv := kv_end (u := .slice (some ⟨g, 0, none⟩) (n + 1) cap) (P := P) (Hk8.out.gr (by repeat (first | exact Gr.refl _ | apply Gr.alloc | apply Gr.drew))) (own_gr Hown8.out (by repeat (first | exact Gr.refl _ | apply Gr.alloc | apply Gr.drew))) hgr; have hrw : ∃ c fz, w9.heap[g]? = some (.cells c 51 fz) := Lib.ownsRow_kind hown9 g rfl; have hcap : n + 1 ≤ cap := own_cap hown9; have HX9 := Lib.hid (And.intro hP9 (And.intro hF9 (And.intro hO9 (And.intro hkv (And.intro hrw (And.intro hcap hown9)))))); clear hP9 hF9 hO9 hkv hrw hcap hown9 hgr hat hlt9))
                  all_goals
                    go_wp2
                    go_meet
                    case rel =>
                    obtain ⟨hP9, hF9, hO9, hkv, ⟨cw, fz, hrw⟩, hcap, hown9⟩ := HX9.out
                    have hgP : g ≠ P := fun e => by rw [e, hP9] at hrw; cases hrw
                    have hFP : N1 ≠ P := fun e => by rw [e, hP9] at hF9; cases hF9
                    have hOP : N2 ≠ P := fun e => by rw [e, hP9] at hO9; cases hO9
                    exact ⟨g, cap, (set_block hP9 _).trans rfl, ownsRow_setCell_other hown9 (by simp [Value.ownBlock, hgP]) _, hkv, heap_set_far hF9 hFP, heap_set_far hO9 hOP, hcap⟩
                case rest =>
                  obtain ⟨g, cap, hPc, hownc, hkvc, hFc, hOc, hcap⟩ := hcut
                  have hLc := HL.out.kv hkvc h20 h20P h20B
                  have hl1 : (evs ++ [(⟨ys, ti, tq, fade, note⟩ : Ev)]).length = n + 1 := by rw [List.length_append, Hn.out]; rfl
                  have hownc' : wc.ownsRow B 51 5 (.slice (some ⟨g, 0, none⟩) (n + 1) cap) (n + 1) (evsCells (evs ++ [(⟨ys, ti, tq, fade, note⟩ : Ev)])) := by rw [evsCells_append, evsCells_one]; exact hownc
                  have hck := check_any ⟨title, rate, evs ++ [⟨ys, ti, tq, fade, note⟩]⟩ (some ⟨g, 0, none⟩) cap wc hLc (by rw [hl1]; exact hcap) (evsAt_own hownc') (by
                    intro e he
                    rcases List.mem_append.1 he with he | he
                    · exact Hev.out e he
                    · rw [List.mem_singleton] at he
                      subst he
                      have := Hys.out
                      have := Hno.out
                      unfold maxLen
                      exact ⟨by show ys.size ≤ _; omega, by show note.size ≤ _; omega⟩)
                  rw [hl1] at hck
                  have Hck := Lib.hid hck
                  obtain ⟨r0, r1, r2, rf⟩ := cells3 hPc
                  obtain ⟨f0, f1, f2, f3, ff⟩ := cells4 hFc
                  obtain ⟨o0, o1, o2, o3, of⟩ := cells4 hOc
                  have Hkv := Lib.hid hkvc
                  have HPc := Lib.hid hPc
                  have Hownc := Lib.hid hownc'
                  have Hl1 := Lib.hid hl1
                  clear hLc hl1 hownc hownc' hck hkvc hPc hFc hOc ff of
                  go_wp2_with fail
                  refine Hck.out.mono ?_
                  rintro e w10 ⟨⟨v, rfl, hv⟩, hg10⟩
                  have f0' := hg10.cell f0
                  have o0' := hg10.cell o0
                  have Hkv10 := Lib.hid (Hkv.out.gr hg10)
                  clear f0 f1 f2 f3 o0 o1 o2 o3 r0 r1 r2 rf
                  have hBc := Hkv.out.size
                  cases hck : check ⟨title, rate, evs ++ [⟨ys, ti, tq, fade, note⟩]⟩ with
                  | none =>
                    rw [hck] at hv
                    have HTE : Hid (TA = .ok ⟨ys, ti, tq, fade, note⟩) := Lib.hid (by rw [← HT4.out, eventCheck]; simp only [hck])
                    obtain rfl := hv
                    clear hck
                    go_wp2_with fail
                    refine (is_nil _ _).mono ?_
                    rintro e w11 ⟨rfl, rfl⟩
                    go_wp2
                    go_ret
                    rw [HTE.out]
                    refine ⟨⟨rfl, _, (hg10.below.block _ (Array.getElem?_eq_some_iff.1 HPc.out).1).trans HPc.out, ?_⟩, Hkv10.out⟩
                    have := own_gr Hownc.out hg10
                    rw [Hl1.out]
                    exact this
                  | some ke =>
                    obtain ⟨k, en⟩ := ke
                    rw [hck] at hv
                    obtain ⟨vb, rfl, hvb, hvc⟩ := hv
                    have hv1 : w10.cell? ⟨vb, 1, none⟩ = some (.int .i64 en) := by simp [World.cell?, hvc]
                    by_cases h194 : en = 194
                    · have HTE : Hid (TA = .error (ua, 194)) := Lib.hid (by rw [← HT4.out, eventCheck]; simp only [hck, if_pos h194])
                      subst h194
                      clear hck hvc
                      go_wp2_with fail
                      refine (is_event vb 194 194 _ hv1).mono ?_
                      rintro e w11 ⟨rfl, rfl⟩
                      go_wp2_with fail
                      refine (fault_any _ _ _).mono ?_
                      rintro e w12 ⟨⟨v, rfl, hv⟩, hg12⟩
                      have Hv := Lib.hid hv
                      clear hv
                      go_wp2
                      go_ret
                      rw [HTE.out]
                      exact ⟨⟨v, rfl, Hv.out.mono (Nat.le_trans hBc hg10.size)⟩, Hkv10.out.gr hg12⟩
                    · have HTE : Hid (TA = .error (xa, 195)) := Lib.hid (by rw [← HT4.out, eventCheck]; simp only [hck, if_neg h194])
                      have hb : (en == 194) = false := beq_eq_false_iff_ne.2 h194
                      clear hck hvc h194
                      go_wp2_with fail
                      refine (is_event vb en 194 _ hv1).mono ?_
                      rintro e w11 ⟨rfl, rfl⟩
                      go_wp2_with fail
                      refine (fault_any _ _ _).mono ?_
                      rintro e w12 ⟨⟨v, rfl, hv⟩, hg12⟩
                      have Hv := Lib.hid hv
                      clear hv
                      go_wp2
                      go_ret
                      rw [HTE.out]
                      exact ⟨⟨v, rfl, Hv.out.mono (Nat.le_trans hBc hg10.size)⟩, Hkv10.out.gr hg12⟩
end Go.Proofs.Cuts
