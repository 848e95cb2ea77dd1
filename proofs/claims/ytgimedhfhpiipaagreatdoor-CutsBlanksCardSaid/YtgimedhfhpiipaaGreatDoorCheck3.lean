/-
  cuts.Check, its loop over the events; and Check at every list. Conditions: the listed variables lie in the world; the list's events can be read.
-/
import Derived.Test.YtgimedhfhpiipaaGreatDoorCheck2
namespace Go.Proofs.Cuts
open Go.RowKit

set_option maxHeartbeats 1000000 in
theorem check_evs (l : CL) (A : Option Addr) (c : Nat) (w : World) (hL : Laid w) (h : ¬ 100 < l.title.size) (hu : Lib.validD (bl l.title) = true) (hr : isRate l.rate = true) (hn : ¬ 200 < l.evs.length)
    (hc : l.evs.length ≤ c) (hS : EvsAt w A l.evs) (hsz : ∀ e ∈ l.evs, e.reel.size ≤ maxLen ∧ e.note.size ≤ maxLen) :
    Calls Tryz.prog 15 #[.agg #[.string l.title, .int .i64 l.rate, .slice A l.evs.length c]] w fun r w' => (∃ v, r = .returned v ∧ CheckEnd w.heap.size w' v (checkEvs (day l.rate) [] l.evs 0)) ∧ Gr w w' := by
  obtain ⟨title, rate, evs⟩ := l
  simp only at h hr hn hc hS hsz hu
  have hd := day_range rate
  have Hu := Lib.hid hu
  have Hr := Lib.hid hr
  clear hu hr
  obtain ⟨n, hlen⟩ : ∃ n, evs.length = n := ⟨_, rfl⟩
  show Calls Tryz.prog 15 #[.agg #[.string title, .int .i64 rate, .slice A evs.length c]] w fun r w' => (∃ v, r = .returned v ∧ CheckEnd w.heap.size w' v (checkEvs (day rate) [] evs 0)) ∧ Gr w w'
  obtain ⟨ANS, hANS⟩ : ∃ a, checkEvs (day rate) [] evs 0 = a := ⟨_, rfl⟩
  rw [hANS, hlen]
  rw [hlen] at hn hc
  have HA := Lib.hid hANS
  have Hlen := Lib.hid hlen
  clear hANS hlen
  have HS := Lib.hid hS
  have Hsz := Lib.hid hsz
  clear hS hsz
  have hbox := (Gr.refl w).alloc (.cells #[.string title, .int .i64 rate, .slice A n c] 30)
  have b0 : (w.alloc (.cells #[.string title, .int .i64 rate, .slice A n c] 30)).cell? ⟨w.heap.size, 0, none⟩ = some (.string title) := by simp
  have b2 : (w.alloc (.cells #[.string title, .int .i64 rate, .slice A n c] 30)).cell? ⟨w.heap.size, 2, none⟩ = some (.slice A n c) := by simp
  go_enter Tryz.func15, Tryz.ntmps15
  go_wp2_with fail
  refine (perDay_yes rate _ Hr.out (hL.grow hbox)).mono ?_
  rintro e w' ⟨rfl, hg⟩
  have b0' := hg.cell b0
  have b2' := hg.cell b2
  clear b0 b2
  have hL' := (hL.grow hbox).grow hg
  go_wp2_with fail
  refine (Tryz.utf8_ValidString title _ (by omega) hL'.u8).mono ?_
  rintro e w1 ⟨rfl, hb⟩
  have hg1 : Gr w' w1 := hb
  clear hb
  have b2 := hg1.cell b2'
  clear b2' b0'
  have hG : Gr w w1 := (hbox.trans hg).trans hg1
  have hL1 := hL'.grow hg1
  clear hL' hg hg1 hbox
  rw [show Lib.validD title.data.toList = true from Hu.out]
  go_wp2
  go_loopg [39] n (fun g v wx => Gr w wx ∧ wx.cell? ⟨w.heap.size, 2, none⟩ = some (.slice A n c) ∧ ∃ k : Nat, k + g = n ∧ v = .int .i64 k ∧ Hid (checkEvs (day rate) (evs.take k) (evs.drop k) k = ANS) ∧ Hid (∀ l ∈ evs.take k, Timed l ∧ (0 ≤ l.fade ∧ l.fade ≤ 100)))
  case atStart => exact ⟨hG, b2, 0, by omega, rfl, Lib.hid (by simpa using HA.out), Lib.hid (by simp)⟩
  case round =>
    obtain ⟨hGx, b2x, k, hk, rfl, HK, HT⟩ := hrel
    by_cases hlt : k < n
    · obtain ⟨ev, hev⟩ : ∃ ev, evs[k]? = some ev := by
        rw [List.getElem?_eq_getElem (by rw [Hlen.out]; exact hlt)]; exact ⟨_, rfl⟩
      obtain ⟨b, o, rfl, hcells⟩ : ∃ b o, A = some ⟨b, o, none⟩ ∧ ∀ k e, evs[k]? = some e → EvAt w b o k e := by
        rcases HS.out with h0 | h1
        · rw [h0] at hev; cases hev
        · exact h1
      have hE := (hcells k ev hev).grow hGx
      have Hcells := Lib.hid hcells
      clear hcells
      have hszk := Hsz.out ev (List.mem_of_getElem? hev)
      have Hev := Lib.hid hev
      clear hev
      obtain ⟨reel, i, ou, fade, note⟩ := ev
      obtain ⟨e0, e1, e2, e3, e4⟩ := hE
      simp only at e0 e1 e2 e3 e4 hszk
      have hkc : (k : Int) ≤ (c : Int) := by omega
      obtain ⟨RES, hRES⟩ : ∃ r, checkEv (evs.take k) ⟨reel, i, ou, fade, note⟩ (day rate) = r := ⟨_, rfl⟩
      have hcall : ∀ w2, Gr w w2 → Calls Tryz.prog 40 #[.slice (some ⟨b, o, none⟩) k c, .agg #[.string reel, .int .i64 i, .int .i64 ou, .int .i64 fade, .string note], .int .i64 (day rate)] w2 fun v w' => v = .returned (.int .i64 RES) ∧ Gr w2 w' := by
        intro w2 hg2
        have := checkEvent_any (some ⟨b, o, none⟩) c (evs.take k) ⟨reel, i, ou, fade, note⟩ (day rate) w2 (hL.grow hg2) hszk.1 hszk.2 hd.2 ((HS.out.take k).grow hg2) (by rw [List.length_take]; omega) HT.out
        rw [hRES, List.length_take, Nat.min_eq_left (by rw [Hlen.out]; omega)] at this
        exact this
      have Hcall := Lib.hid hcall
      have HRES := Lib.hid hRES
      clear hcall hRES
      go_wp2
      go_region_held3 (fun w2 => Gr w w2 ∧ w2.cell? ⟨w.heap.size, 2, none⟩ = some (.slice (some ⟨b, o, none⟩) n c) ∧ w2.cell? ⟨wr.heap.size, 0, none⟩ = some (.string reel) ∧ w2.cell? ⟨wr.heap.size, 1, none⟩ = some (.int .i64 i) ∧ w2.cell? ⟨wr.heap.size, 2, none⟩ = some (.int .i64 ou) ∧ w2.cell? ⟨wr.heap.size, 3, none⟩ = some (.int .i64 fade) ∧ w2.cell? ⟨wr.heap.size, 4, none⟩ = some (.string note))
        (first | exact ⟨(hGx.alloc _).drew, old_alloc b2x _, by simp, by simp, by simp, by simp, by simp⟩ | exact ⟨Gr.trans (hGx.alloc _).drew hg, hg.cell (old_alloc b2x _), hg.cell (by simp), hg.cell (by simp), hg.cell (by simp), hg.cell (by simp), hg.cell (by simp)⟩)
        (first | (go_at_call 40; refine (Hcall.out _ (hGx.alloc _).drew).mono ?_; rintro e w' ⟨rfl, hg⟩))
      rename_i hS2
      obtain ⟨hG2, b22, -⟩ := hS2
      clear hg
      by_cases hz : RES = 0
      · have hz1 : (RES != 0) = false := bne_eq_false_iff_eq.2 hz
        have Hz := Lib.hid hz
        clear hz
        go_wp2
        go_roundg (gk - 1)
        case measure => omega
        case rel =>
          refine ⟨hG2, b22, k + 1, by omega, by go_num, Lib.hid ?_, Lib.hid ?_⟩
          · have hk' : evs[k]'(by rw [Hlen.out]; exact hlt) = ⟨reel, i, ou, fade, note⟩ := by
              have := Hev.out; rw [List.getElem?_eq_getElem (by rw [Hlen.out]; exact hlt)] at this; exact Option.some.inj this
            have hdrop : evs.drop k = ⟨reel, i, ou, fade, note⟩ :: evs.drop (k + 1) := by
              rw [List.drop_eq_getElem_cons (by rw [Hlen.out]; exact hlt), hk']
            have := HK.out
            rw [hdrop, checkEvs_ok _ _ _ _ _ (HRES.out.trans Hz.out)] at this
            rw [List.take_succ_eq_append_getElem (by rw [Hlen.out]; exact hlt), hk']
            exact this
          · rw [List.take_succ_eq_append_getElem (by rw [Hlen.out]; exact hlt)]
            intro x hx
            rcases List.mem_append.1 hx with hx | hx
            · exact HT.out x hx
            · have hk' : evs[k]'(by rw [Hlen.out]; exact hlt) = ⟨reel, i, ou, fade, note⟩ := by
                have := Hev.out; rw [List.getElem?_eq_getElem (by rw [Hlen.out]; exact hlt)] at this; exact Option.some.inj this
              rw [hk', List.mem_singleton] at hx
              subst hx
              exact checkEv_zero hd.2 (HRES.out.trans Hz.out)
      · have hz1 : (RES != 0) = true := bne_iff_ne.2 hz
        have Hz := Lib.hid hz
        clear hz
        go_wp2_with fail
        refine (wrong_any _ _ _).mono ?_
        rintro e w3 ⟨⟨v, rfl, hv⟩, hg3⟩
        go_wp2
        go_ret
        refine ⟨⟨v, rfl, ?_⟩, hG2.trans hg3⟩
        rw [← HK.out, List.drop_eq_getElem_cons (by rw [Hlen.out]; exact hlt)]
        have hk' : evs[k]'(by rw [Hlen.out]; exact hlt) = ⟨reel, i, ou, fade, note⟩ := by
          have := Hev.out; rw [List.getElem?_eq_getElem (by rw [Hlen.out]; exact hlt)] at this; exact Option.some.inj this
        rw [hk', checkEvs_no _ _ _ _ _ (by rw [HRES.out]; exact Hz.out), HRES.out]
        exact hv.mono hG2.size
    · go_wp2
      go_ret
      refine ⟨⟨_, rfl, ?_⟩, hGx⟩
      rw [← HK.out, List.drop_of_length_le (by rw [Hlen.out]; omega)]
      rfl

theorem check_any (l : CL) (A : Option Addr) (c : Nat) (w : World) (hL : Laid w) (hc : l.evs.length ≤ c) (hS : EvsAt w A l.evs) (hsz : ∀ e ∈ l.evs, e.reel.size ≤ maxLen ∧ e.note.size ≤ maxLen) :
    Calls Tryz.prog 15 #[.agg #[.string l.title, .int .i64 l.rate, .slice A l.evs.length c]] w fun r w' => (∃ v, r = .returned v ∧ CheckEnd w.heap.size w' v (check l)) ∧ Gr w w' := by
  unfold check
  by_cases h : 100 < l.title.size
  · rw [if_pos h]; exact check_title l A _ c w hL h
  rw [if_neg h]
  cases hu : Lib.validD (bl l.title) with
  | false => rw [if_pos rfl]; exact check_utf8 l A _ c w hL h hu
  | true =>
    rw [if_neg (by simp)]
    cases hr : isRate l.rate with
    | false => rw [if_pos rfl]; exact check_rate l A _ c w hL h hu hr
    | true =>
      rw [if_neg (by simp)]
      by_cases hn : 200 < l.evs.length
      · rw [if_pos hn]; exact check_many l A _ c w hL h hu hr hn
      · rw [if_neg hn]; exact check_evs l A c w hL h hu hr hn hc hS hsz
end Go.Proofs.Cuts
