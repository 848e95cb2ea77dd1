/-
  timecode's read, and Number: the number of a name, or a fault. Conditions: the listed variables lie in the world; the text has at most 20000 bytes.
-/
import Derived.Test.YtgimedhfhpiipaaGreatDoorNumber
namespace Go.Proofs.Cuts
open Go.RowKit

/-- What read answers. -/
def ReadEnd (r : Int) (l : List UInt8) (e : Ending) : Prop :=
  ∃ n at_ er : Int, e = .returned (.tuple #[.int .i64 n, .int .i64 at_, .int .i64 er]) ∧ (match number r l with | none => er ≠ 0 | some m => er = 0 ∧ n = m)
theorem readEnd_no {r : Int} {l : List UInt8} {n at_ er : Int} (h : number r l = none) (he : er ≠ 0) : ReadEnd r l (.returned (.tuple #[.int .i64 n, .int .i64 at_, .int .i64 er])) := ⟨n, at_, er, rfl, by rw [h]; exact he⟩
theorem readEnd_yes {r : Int} {l : List UInt8} {n at_ : Int} (h : number r l = some n) : ReadEnd r l (.returned (.tuple #[.int .i64 n, .int .i64 at_, .int .i64 0])) := ⟨n, at_, 0, rfl, by rw [h]; exact ⟨rfl, rfl⟩⟩

/-- number, where the form is right. -/
theorem number_formed (r : Int) (l : List UInt8) (hr : isRate r = true) (hf : formGo r 0 l = none) : number r l =
    if 23 < part l 0 then none else if 59 < part l 3 then none else if 59 < part l 6 then none else if rcount r ≤ part l 9 then none
    else if part l 3 % 10 ≠ 0 ∧ part l 6 = 0 ∧ part l 9 < rdrop r then none
    else some (rcount r * (60 * (60 * part l 0 + part l 3) + part l 6) + part l 9 - rdrop r * ((60 * part l 0 + part l 3) - (60 * part l 0 + part l 3) / 10)) := by
  unfold number
  rw [hr, hf]
  simp

theorem part_range {r : Int} (l : List UInt8) (hf : formGo r 0 l = none) (k : Nat) (hk : k = 0 ∨ k = 3 ∨ k = 6 ∨ k = 9) : 0 ≤ part l k ∧ part l k ≤ 99 := by
  obtain ⟨hl, h⟩ := formGo_none r l 0 (by omega) hf
  have h0 := h k (by omega) (by omega) (by omega)
  have h1 := h (k + 1) (by omega) (by omega) (by omega)
  rw [dig_iff] at h0 h1
  unfold part dval
  rw [List.getD_eq_getElem?_getD, List.getD_eq_getElem?_getD, List.getElem?_eq_getElem (by omega), List.getElem?_eq_getElem (by omega)]
  simp only [Option.getD_some]
  omega

set_option maxHeartbeats 2000000 in
theorem read_bad (r num den : Int) (s : ByteArray) (w : World) (hs : s.size ≤ 20000) (k : Nat) (hf : formGo r 0 (bl s) = some k) :
    Calls Tryz.prog 123 #[.agg #[.int .i64 (rcount r), .int .i64 num, .int .i64 den, .int .i64 (rdrop r)], .string s] w fun e w' => ReadEnd r (bl s) e ∧ Gr w w' := by
  have hnum : number r (bl s) = none := by
    unfold number
    rw [hf]
    cases isRate r <;> simp
  have Hn := Lib.hid hnum
  have Hf := Lib.hid hf
  clear hnum hf
  go_enter Tryz.func123, Tryz.ntmps123
  go_wp2_with fail
  refine (form_any r num den s _ (by unfold maxLen; omega)).mono ?_
  rintro e w2 ⟨rfl, hg2⟩
  have hG : Gr w w2 := (((Gr.refl w).alloc _).alloc _).trans hg2
  have e1 : formV (formGo r 0 (bl s)) = k := by rw [Hf.out]; rfl
  rw [e1]
  clear e1
  go_wp2
  go_ret3
  exact ⟨readEnd_no Hn.out (by omega), hG⟩

theorem part_calls (b : Nat) (r : Int) (s : ByteArray) (hf : formGo r 0 (bl s) = none) (k : Nat) (hk : k = 0 ∨ k = 3 ∨ k = 6 ∨ k = 9) (W : World) (hW : W.heap[b]? = some (.cells #[.string s] 9 (0, 0))) :
    Calls Tryz.prog 133 #[.int .i64 k, .pointer (some ⟨b, 0, none⟩)] W fun e w' => e = .returned (.int .i64 (part (bl s) k)) ∧ ∃ n, w' = W.drewN n := by
  obtain ⟨hl, h⟩ := formGo_none r (bl s) 0 (by omega) hf
  rw [bl_length'] at hl
  have h0 := h k (by rw [bl_length']; omega) (by omega) (by omega)
  have h1 := h (k + 1) (by rw [bl_length']; omega) (by omega) (by omega)
  rw [dig_iff] at h0 h1
  have g : ∀ j (hj : j < s.size), (bl s)[j]'(by rw [bl_length']; exact hj) = s[j] := fun j hj => by simp [bl]; rfl
  rw [g k (by omega)] at h0
  rw [g (k + 1) (by omega)] at h1
  have e : part (bl s) k = 10 * (((s[k]'(by omega)).toNat : Int) - 48) + (((s[k + 1]'(by omega)).toNat : Int) - 48) := by
    unfold part dval
    rw [List.getD_eq_getElem?_getD, List.getD_eq_getElem?_getD, List.getElem?_eq_getElem (by rw [bl_length']; omega), List.getElem?_eq_getElem (by rw [bl_length']; omega), Option.getD_some, Option.getD_some, g k (by omega), g (k + 1) (by omega)]
  rw [e]
  exact part_any b s k W hW (by omega) (by omega) h0 h1

theorem number_wrap (RC RD H M S F : Int) (hrc : 0 ≤ RC ∧ RC ≤ 60) (hrd : 0 ≤ RD ∧ RD ≤ 4) (hh : 0 ≤ H ∧ H ≤ 99) (hm : 0 ≤ M ∧ M ≤ 99) (hs : 0 ≤ S ∧ S ≤ 99) (hf : 0 ≤ F ∧ F ≤ 99) :
    wrap64 (wrap64 (wrap64 (RC * (60 * (60 * H + M) + S)) + F) - wrap64 (RD * (60 * H + M - (60 * H + M) / 10))) = RC * (60 * (60 * H + M) + S) + F - RD * (60 * H + M - (60 * H + M) / 10) := by
  have hA : 0 ≤ RC * (60 * (60 * H + M) + S) ∧ RC * (60 * (60 * H + M) + S) ≤ 60 * 1000000 := ⟨Int.mul_nonneg hrc.1 (by omega), Int.mul_le_mul hrc.2 (by omega) (by omega) (by omega)⟩
  have hB : 0 ≤ RD * (60 * H + M - (60 * H + M) / 10) ∧ RD * (60 * H + M - (60 * H + M) / 10) ≤ 4 * 1000000 := ⟨Int.mul_nonneg hrd.1 (by omega), Int.mul_le_mul hrd.2 (by omega) (by omega) (by omega)⟩
  generalize RC * (60 * (60 * H + M) + S) = A at *
  generalize RD * (60 * H + M - (60 * H + M) / 10) = B at *
  rw [IntWalk.wrap64_in A (by omega), IntWalk.wrap64_in B (by omega), IntWalk.wrap64_in (A + F) (by omega), IntWalk.wrap64_in _ (by omega)]

set_option maxHeartbeats 4000000 in
theorem read_good (r num den : Int) (s : ByteArray) (w : World) (hs : s.size ≤ 20000) (hr : isRate r = true) (hf : formGo r 0 (bl s) = none) :
    Calls Tryz.prog 123 #[.agg #[.int .i64 (rcount r), .int .i64 num, .int .i64 den, .int .i64 (rdrop r)], .string s] w fun e w' => ReadEnd r (bl s) e ∧ Gr w w' := by
  have hnum := number_formed r (bl s) hr hf
  have hh := part_range (bl s) hf 0 (by omega)
  have hm := part_range (bl s) hf 3 (by omega)
  have hsc := part_range (bl s) hf 6 (by omega)
  have hfr := part_range (bl s) hf 9 (by omega)
  have hrc := rcount_range r
  have hrd := rdrop_range r
  have hp0 : ∀ W : World, W.heap[w.heap.size + 1]? = some (.cells #[.string s] 9 (0, 0)) → Calls Tryz.prog 133 #[.int .i64 0, .pointer (some ⟨w.heap.size + 1, 0, none⟩)] W fun e w' => e = .returned (.int .i64 (part (bl s) 0)) ∧ ∃ n, w' = W.drewN n := fun W h => part_calls (w.heap.size + 1) r s hf 0 (by omega) W h
  have hp3 : ∀ W : World, W.heap[w.heap.size + 1]? = some (.cells #[.string s] 9 (0, 0)) → Calls Tryz.prog 133 #[.int .i64 3, .pointer (some ⟨w.heap.size + 1, 0, none⟩)] W fun e w' => e = .returned (.int .i64 (part (bl s) 3)) ∧ ∃ n, w' = W.drewN n := fun W h => part_calls (w.heap.size + 1) r s hf 3 (by omega) W h
  have hp6 : ∀ W : World, W.heap[w.heap.size + 1]? = some (.cells #[.string s] 9 (0, 0)) → Calls Tryz.prog 133 #[.int .i64 6, .pointer (some ⟨w.heap.size + 1, 0, none⟩)] W fun e w' => e = .returned (.int .i64 (part (bl s) 6)) ∧ ∃ n, w' = W.drewN n := fun W h => part_calls (w.heap.size + 1) r s hf 6 (by omega) W h
  have hp9 : ∀ W : World, W.heap[w.heap.size + 1]? = some (.cells #[.string s] 9 (0, 0)) → Calls Tryz.prog 133 #[.int .i64 9, .pointer (some ⟨w.heap.size + 1, 0, none⟩)] W fun e w' => e = .returned (.int .i64 (part (bl s) 9)) ∧ ∃ n, w' = W.drewN n := fun W h => part_calls (w.heap.size + 1) r s hf 9 (by omega) W h
  obtain ⟨H, hH⟩ : ∃ x, part (bl s) 0 = x := ⟨_, rfl⟩
  obtain ⟨M, hM⟩ : ∃ x, part (bl s) 3 = x := ⟨_, rfl⟩
  obtain ⟨S, hS⟩ : ∃ x, part (bl s) 6 = x := ⟨_, rfl⟩
  obtain ⟨F, hF⟩ : ∃ x, part (bl s) 9 = x := ⟨_, rfl⟩
  rw [hH] at hh hp0
  rw [hM] at hm hp3
  rw [hS] at hsc hp6
  rw [hF] at hfr hp9
  rw [hH, hM, hS, hF] at hnum
  clear hH hM hS hF
  obtain ⟨RC, hRC⟩ : ∃ x, rcount r = x := ⟨_, rfl⟩
  obtain ⟨RD, hRD⟩ : ∃ x, rdrop r = x := ⟨_, rfl⟩
  have hform := form_any r num den s
  rw [hRC, hRD] at hnum hform ⊢
  rw [hRC] at hrc
  rw [hRD] at hrd
  have hform2 : ∀ W, Calls Tryz.prog 132 #[.agg #[.int .i64 RC, .int .i64 num, .int .i64 den, .int .i64 RD], .string s] W fun e w' => e = .returned (.int .i64 (-1)) ∧ Gr W w' := fun W => by
    have := hform W (by unfold maxLen; omega)
    rw [hf] at this
    exact this
  have Hn := Lib.hid hnum
  have Hform := Lib.hid hform2
  have Hp0 := Lib.hid hp0
  have Hp3 := Lib.hid hp3
  have Hp6 := Lib.hid hp6
  have Hp9 := Lib.hid hp9
  clear hnum hform hform2 hp0 hp3 hp6 hp9 hf hr hRC hRD
  go_enter Tryz.func123, Tryz.ntmps123
  go_wp2_with fail
  refine (Hform.out _).mono ?_
  rintro e w2 ⟨rfl, hg2⟩
  have hG : Gr w w2 := (((Gr.refl w).alloc _).alloc _).trans hg2
  have hbs : w2.heap[w.heap.size + 1]? = some (.cells #[.string s] 9 (0, 0)) := by
    have h := (Gr.below hg2).block (w.heap.size + 1) (by simp)
    rw [h]
    exact heap_new_at (by simp) _
  have hbr : w2.heap[w.heap.size]? = some (.cells #[.int .i64 RC, .int .i64 num, .int .i64 den, .int .i64 RD] 145 (0, 0)) := by
    have h := (Gr.below hg2).block w.heap.size (by simp; omega)
    rw [h]
    exact heap_old (heap_new _ _) _
  have c0 : w2.cell? ⟨w.heap.size, 0, none⟩ = some (.int .i64 RC) := by simp [World.cell?, hbr]
  have c3 : w2.cell? ⟨w.heap.size, 3, none⟩ = some (.int .i64 RD) := by simp [World.cell?, hbr]
  have Hbs := Lib.hid hbs
  clear hbs hbr hg2
  go_wp2_with fail
  refine (Hp0.out _ Hbs.out).mono ?_
  rintro e w3 ⟨rfl, n0, rfl⟩
  go_wp2_with fail
  refine (Hp3.out (w2.drewN _) Hbs.out).mono ?_
  rintro e w3 ⟨rfl, n3, rfl⟩
  go_wp2_with fail
  refine (Hp6.out (w2.drewN _) Hbs.out).mono ?_
  rintro e w3 ⟨rfl, n6, rfl⟩
  go_wp2_with fail
  refine (Hp9.out (w2.drewN _) Hbs.out).mono ?_
  rintro e w3 ⟨rfl, n9, rfl⟩
  clear Hp0 Hp3 Hp6 Hp9 Hform Hbs
  by_cases h1 : 23 < H
  · have hn := Hn.out
    rw [if_pos h1] at hn
    have Hn2 := Lib.hid hn
    clear hn
    go_wp2
    go_ret3
    exact ⟨readEnd_no Hn2.out (by omega), by repeat (first | assumption | apply Gr.drewN)⟩
  by_cases h2 : 59 < M
  · have hn := Hn.out
    rw [if_neg h1, if_pos h2] at hn
    have Hn2 := Lib.hid hn
    clear hn
    go_wp2
    go_ret3
    exact ⟨readEnd_no Hn2.out (by omega), by repeat (first | assumption | apply Gr.drewN)⟩
  by_cases h3 : 59 < S
  · have hn := Hn.out
    rw [if_neg h1, if_neg h2, if_pos h3] at hn
    have Hn2 := Lib.hid hn
    clear hn
    go_wp2
    go_ret3
    exact ⟨readEnd_no Hn2.out (by omega), by repeat (first | assumption | apply Gr.drewN)⟩
  by_cases h4 : RC ≤ F
  · have hn := Hn.out
    rw [if_neg h1, if_neg h2, if_neg h3, if_pos h4] at hn
    have Hn2 := Lib.hid hn
    clear hn
    go_wp2
    go_ret3
    exact ⟨readEnd_no Hn2.out (by omega), by repeat (first | assumption | apply Gr.drewN)⟩
  have hn := Hn.out
  rw [if_neg h1, if_neg h2, if_neg h3, if_neg h4] at hn
  by_cases h5 : M % 10 = 0
  · rw [if_neg (fun h => h.1 h5)] at hn
    have Hn2 := Lib.hid hn
    have m5 : (M % 10 != 0) = false := bne_eq_false_iff_eq.2 h5
    clear hn h5
    go_wp2
    go_ret3
    exact ⟨readEnd_yes (by rw [number_wrap RC RD H M S F hrc hrd hh hm hsc hfr]; exact Hn2.out), by repeat (first | assumption | apply Gr.drewN)⟩
  · have m5 : (M % 10 != 0) = true := bne_iff_ne.2 h5
    by_cases h6 : S = 0
    · have m6 : (S == 0) = true := beq_iff_eq.2 h6
      by_cases h7 : F < RD
      · rw [if_pos ⟨h5, h6, h7⟩] at hn
        have Hn2 := Lib.hid hn
        clear hn h5 h6
        go_wp2
        go_ret3
        exact ⟨readEnd_no Hn2.out (by omega), by repeat (first | assumption | apply Gr.drewN)⟩
      · rw [if_neg (fun h => h7 h.2.2)] at hn
        have Hn2 := Lib.hid hn
        clear hn h5 h6
        go_wp2
        go_ret3
        exact ⟨readEnd_yes (by rw [number_wrap RC RD H M S F hrc hrd hh hm hsc hfr]; exact Hn2.out), by repeat (first | assumption | apply Gr.drewN)⟩
    · have m6 : (S == 0) = false := beq_eq_false_iff_ne.2 h6
      rw [if_neg (fun h => h6 h.2.1)] at hn
      have Hn2 := Lib.hid hn
      clear hn h5 h6
      go_wp2
      go_ret3
      exact ⟨readEnd_yes (by rw [number_wrap RC RD H M S F hrc hrd hh hm hsc hfr]; exact Hn2.out), by repeat (first | assumption | apply Gr.drewN)⟩
end Go.Proofs.Cuts
