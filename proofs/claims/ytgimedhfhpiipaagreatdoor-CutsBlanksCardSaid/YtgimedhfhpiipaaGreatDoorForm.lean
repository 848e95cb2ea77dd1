/-
  timecode's mark and form: what they return of a rate. Conditions: the text's length fits an int.
-/
import Derived.Test.YtgimedhfhpiipaaGreatDoorIndexAny
namespace Go.Proofs.Cuts
open Go.RowKit

theorem mark_any (r num den : Int) (w : World) :
    Calls Tryz.prog 113 #[.agg #[.int .i64 (rcount r), .int .i64 num, .int .i64 den, .int .i64 (rdrop r)]] w fun e w' => e = .returned (.int .u8 (markOf r)) ∧ Gr w w' := by
  by_cases h : 0 < rdrop r
  · have e : markOf r = 59 := if_pos h
    rw [e]
    go_enter Tryz.func113, Tryz.ntmps113
    go_wp2
    go_ret
    exact ⟨rfl, (Gr.refl _).alloc _⟩
  · have e : markOf r = 58 := if_neg h
    rw [e]
    go_enter Tryz.func113, Tryz.ntmps113
    go_wp2
    go_ret
    exact ⟨rfl, (Gr.refl _).alloc _⟩

def formV : Option Nat → Int
  | none => -1
  | some k => k
theorem markOf_range (r : Int) : markOf r = 58 ∨ markOf r = 59 := by unfold markOf; split <;> simp

theorem formGo_step (r : Int) (k : Nat) (c : UInt8) (t : List UInt8) : formGo r k (c :: t) =
    if k = 11 then some 11
    else if k = 8 then (if c.toNat = markOf r then formGo r (k + 1) t else some k)
    else if k % 3 = 2 then (if c.toNat = 58 then formGo r (k + 1) t else some k)
    else if dig c then formGo r (k + 1) t else some k := rfl
theorem dig_iff (c : UInt8) : dig c = true ↔ 48 ≤ c.toNat ∧ c.toNat ≤ 57 := by simp [dig]

set_option maxRecDepth 100000 in
set_option maxHeartbeats 2000000 in
theorem form_any (r num den : Int) (s : ByteArray) (w : World) (hs : s.size ≤ maxLen) :
    Calls Tryz.prog 132 #[.agg #[.int .i64 (rcount r), .int .i64 num, .int .i64 den, .int .i64 (rdrop r)], .string s] w fun e w' => e = .returned (.int .i64 (formV (formGo r 0 (bl s)))) ∧ Gr w w' := by
  unfold maxLen at hs
  obtain ⟨ANS, hANS⟩ : ∃ a, formGo r 0 (bl s) = a := ⟨_, rfl⟩
  rw [hANS]
  have HA := Lib.hid hANS
  clear hANS
  have hmk := markOf_range r
  obtain ⟨M, hM⟩ : ∃ m, markOf r = m := ⟨_, rfl⟩
  rw [hM] at hmk
  have HM := Lib.hid hM
  clear hM
  go_enter Tryz.func132, Tryz.ntmps132
  go_wp2
  go_loopg [5] (s.size + 1) (fun g v wx => Gr w wx ∧ ∃ p : Nat, v = .int .i64 p ∧ p ≤ s.size ∧ s.size - p < g ∧ p ≤ 11 ∧ wx.heap[w.heap.size]? = some (.cells #[.int .i64 (rcount r), .int .i64 num, .int .i64 den, .int .i64 (rdrop r)] 145 (0, 0)) ∧ wx.heap[w.heap.size + 1]? = some (.stringIter s p) ∧ Hid (formGo r p ((bl s).drop p) = ANS))
  case atStart => exact ⟨((Gr.refl w).alloc _).alloc _, 0, rfl, by omega, by omega, by omega, heap_old (heap_new _ _) _, heap_new_at (by simp) _, Lib.hid (by rw [← HA.out]; rfl)⟩
  case round =>
    obtain ⟨hG, p, rfl, hp, hgk, hp11, hbx, hit, HK⟩ := hrel
    obtain ⟨g, rfl⟩ : ∃ g, gk = g + 1 := ⟨gk - 1, by omega⟩
    by_cases hlt : p < s.size
    · obtain ⟨b, t, hbt⟩ : ∃ b t, (bl s).drop p = b :: t := by
        cases h : (bl s).drop p with
        | nil => have := congrArg List.length h; rw [List.length_drop, bl_length', List.length_nil] at this; omega
        | cons b t => exact ⟨b, t, rfl⟩
      have hstep := HK.out
      rw [hbt, formGo_step, HM.out] at hstep
      have hdrop1 : (bl s).drop (p + 1) = t := by rw [← List.drop_drop, hbt]; rfl
      have hnx : ∀ ty, (Instr.next (.pointer (some ⟨w.heap.size + 1, 0, none⟩)) true ty).run Tryz.prog wr = _ := fun ty => Lib.run_next_any_at (P := Tryz.prog) wr (w.heap.size + 1) s p ty hit hlt
      have hdec : Lib.decodeL (b :: t) = Utf8.decode s p := by rw [← hbt, decodeL_at]
      obtain ⟨W, hW⟩ : ∃ W, wr.iterAt (w.heap.size + 1) s (p + (Utf8.decode s p).2) = W := ⟨_, rfl⟩
      have hGW : Gr w W := by rw [← hW]; exact hG.iterAt (by omega) s _
      have hbW : W.heap[w.heap.size]? = some (.cells #[.int .i64 (rcount r), .int .i64 num, .int .i64 den, .int .i64 (rdrop r)] 145 (0, 0)) := by
        rw [← hW, Lib.iterAt_other _ _ _ _ _ (by omega)]; exact hbx
      have hiW : W.heap[w.heap.size + 1]? = some (.stringIter s (p + (Utf8.decode s p).2)) := by rw [← hW]; exact Lib.iterAt_heap wr _ s p _ hit
      obtain ⟨c, hc⟩ : ∃ c, (Utf8.decode s p).1 = c := ⟨_, rfl⟩
      obtain ⟨wd, hwdv⟩ : ∃ c, (Utf8.decode s p).2 = c := ⟨_, rfl⟩
      rw [hW, hc] at hnx
      rw [hwdv] at hiW
      clear hW
      -- the rune against the byte
      have hrune : (b.toNat < 128 ∧ c = b.toNat ∧ wd = 1) ∨ (128 ≤ b.toNat ∧ 128 ≤ c) := by
        by_cases hb : b.toNat < 128
        · have ha := Lib.decodeL_ascii b t hb
          rw [hdec] at ha
          exact .inl ⟨hb, by rw [← hc, ha], by rw [← hwdv, ha]⟩
        · have hh := decodeL_head b t (by omega)
          rw [hdec, hc] at hh
          exact .inr ⟨by omega, hh⟩
      have k0 : W.cell? ⟨w.heap.size, 0, none⟩ = some (.int .i64 (rcount r)) := by simp [World.cell?, hbW]
      have k1 : W.cell? ⟨w.heap.size, 1, none⟩ = some (.int .i64 num) := by simp [World.cell?, hbW]
      have k2 : W.cell? ⟨w.heap.size, 2, none⟩ = some (.int .i64 den) := by simp [World.cell?, hbW]
      have k3 : W.cell? ⟨w.heap.size, 3, none⟩ = some (.int .i64 (rdrop r)) := by simp [World.cell?, hbW]
      have Hrune := Lib.hid hrune
      have Hst := Lib.hid hstep
      have Hd1 := Lib.hid hdrop1
      have HbW := Lib.hid hbW
      have HiW := Lib.hid hiW
      clear hrune hstep hdrop1 hbW hiW hc hwdv hdec hbt HK hit hbx
      by_cases h11 : p = 11
      · subst h11
        have hs2 := Hst.out
        rw [if_pos (by trivial)] at hs2
        have Hs2 := Lib.hid hs2
        clear hs2
        go_wp2
        go_ret
        exact ⟨by rw [← Hs2.out]; rfl, hGW⟩
      · have n11 : ((p : Int) == 11) = false := beq_eq_false_iff_ne.2 (by omega)
        have hs2 := Hst.out
        rw [if_neg h11] at hs2
        have hp10 : p ≤ 10 := by omega
        clear h11
        by_cases h8 : p = 8
        · subst h8
          rw [if_pos (by trivial)] at hs2
          clear n11
          by_cases hcM : c = M
          · have hb2 : b.toNat = M ∧ wd = 1 := by
              rcases Hrune.out with h | h
              · exact ⟨by omega, h.2.2⟩
              · omega
            rw [if_pos hb2.1] at hs2
            have Hs2 := Lib.hid hs2
            have Hb2 := Lib.hid hb2.2
            have hcb : ((c : Int) != (M : Int)) = false := bne_eq_false_iff_eq.2 (by rw [hcM])
            clear hs2 hb2 hcM
            go_wp2_with fail
            refine (mark_any r num den _).mono ?_
            rintro e w3 ⟨rfl, hg3⟩
            rw [HM.out]
            have hi3 := (Gr.below hg3).block _ (Array.getElem?_eq_some_iff.1 HiW.out).1
            have hb3 := (Gr.below hg3).block _ (Array.getElem?_eq_some_iff.1 HbW.out).1
            rw [HiW.out, Hb2.out] at hi3
            rw [HbW.out] at hb3
            have Hi3 := Lib.hid hi3
            have Hb3 := Lib.hid hb3
            clear hi3 hb3
            go_wp2
            go_roundg g
            case measure => omega
            case rel => exact ⟨hGW.trans hg3, 9, by go_num, by omega, by omega, by omega, Hb3.out, Hi3.out, Lib.hid (by rw [Hd1.out]; exact Hs2.out)⟩
          · have hb2 : ¬ b.toNat = M := by
              rcases Hrune.out with h | h
              · omega
              · omega
            rw [if_neg hb2] at hs2
            have Hs2 := Lib.hid hs2
            have hcb : ((c : Int) != (M : Int)) = true := bne_iff_ne.2 (by omega)
            clear hs2 hb2 hcM
            go_wp2_with fail
            refine (mark_any r num den _).mono ?_
            rintro e w3 ⟨rfl, hg3⟩
            rw [HM.out]
            go_wp2
            go_ret
            exact ⟨by rw [← Hs2.out]; rfl, hGW.trans hg3⟩
        · have n8 : ((p : Int) == 8) = false := beq_eq_false_iff_ne.2 (by omega)
          rw [if_neg h8] at hs2
          clear h8
          by_cases hm : p % 3 = 2
          · rw [if_pos hm] at hs2
            have nm : ((p : Int) % 3 == 2) = true := beq_iff_eq.2 (by omega)
            clear hm
            by_cases hc58 : c = 58
            · have hb2 : b.toNat = 58 ∧ wd = 1 := by
                rcases Hrune.out with h | h
                · exact ⟨by omega, h.2.2⟩
                · omega
              rw [if_pos hb2.1] at hs2
              have Hs2 := Lib.hid hs2
              have Hb2 := Lib.hid hb2.2
              have hcb : ((c : Int) != 58) = false := bne_eq_false_iff_eq.2 (by omega)
              clear hs2 hb2 hc58
              go_wp2
              go_roundg g
              case measure => omega
              case rel => exact ⟨hGW, p + 1, by go_num, by omega, by omega, by omega, HbW.out, by have := HiW.out; rw [Hb2.out] at this; exact this, Lib.hid (by rw [Hd1.out]; exact Hs2.out)⟩
            · have hb2 : ¬ b.toNat = 58 := by
                rcases Hrune.out with h | h
                · omega
                · omega
              rw [if_neg hb2] at hs2
              have Hs2 := Lib.hid hs2
              have hcb : ((c : Int) != 58) = true := bne_iff_ne.2 (by omega)
              clear hs2 hb2 hc58
              go_wp2
              go_ret
              exact ⟨by rw [← Hs2.out]; rfl, hGW⟩
          · rw [if_neg hm] at hs2
            have nm : ((p : Int) % 3 == 2) = false := beq_eq_false_iff_ne.2 (by omega)
            clear hm
            by_cases hd : 48 ≤ c ∧ c ≤ 57
            · have hb2 : dig b = true ∧ wd = 1 := by
                rcases Hrune.out with h | h
                · exact ⟨(dig_iff b).2 (by omega), h.2.2⟩
                · omega
              rw [if_pos hb2.1] at hs2
              have Hs2 := Lib.hid hs2
              have Hb2 := Lib.hid hb2.2
              clear hs2 hb2
              go_wp2
              go_roundg g
              case measure => omega
              case rel => exact ⟨hGW, p + 1, by go_num, by omega, by omega, by omega, HbW.out, by have := HiW.out; rw [Hb2.out] at this; exact this, Lib.hid (by rw [Hd1.out]; exact Hs2.out)⟩
            · have hb2 : dig b = false := by
                rw [← Bool.not_eq_true, dig_iff]
                rcases Hrune.out with h | h
                · omega
                · omega
              rw [if_neg (by rw [hb2]; simp)] at hs2
              have Hs2 := Lib.hid hs2
              clear hs2 hb2
              have hd2 : c < 48 ∨ 57 < c := by omega
              clear hd
              rcases hd2 with h | h
              · go_wp2
                go_ret
                exact ⟨by rw [← Hs2.out]; rfl, hGW⟩
              · go_wp2
                go_ret
                exact ⟨by rw [← Hs2.out]; rfl, hGW⟩
    · have hnx : ∀ ty, (Instr.next (.pointer (some ⟨w.heap.size + 1, 0, none⟩)) true ty).run Tryz.prog wr = _ := fun ty => Lib.run_next_end_at (P := Tryz.prog) wr (w.heap.size + 1) s p ty hit hlt
      have hs2 := HK.out
      rw [List.drop_of_length_le (by rw [bl_length']; omega), formGo] at hs2
      have hps : p = s.size := by omega
      by_cases h11 : p < 11
      · rw [if_pos h11] at hs2
        have Hs2 := Lib.hid hs2
        have Hps := Lib.hid hps
        clear hs2 HK hit hbx hps
        go_wp2
        go_ret
        exact ⟨by rw [← Hs2.out, Hps.out]; rfl, hG⟩
      · rw [if_neg h11] at hs2
        have Hs2 := Lib.hid hs2
        clear hs2 HK hit hbx hps
        go_wp2
        go_ret
        exact ⟨by rw [← Hs2.out]; rfl, hG⟩
end Go.Proofs.Cuts
