/-
  The predicates that cuts hands to plain; rateName, rateOf, isFade. Conditions: the texts are short; for isFade the listed variables lie in the world.
-/
import Derived.Test.YtgimedhfhpiipaaGreatDoorReaderP
import Derived.Lib.AppendIntMem
namespace Go.Proofs.Cuts
open Go.RowKit

theorem rateName_any (r : Int) (w : World) : Calls Tryz.prog 49 #[.int .i64 r] w fun e w' => e = .returned (.string (ba (rateName r))) ∧ w' = w := by
  by_cases h1 : r = 1
  · subst h1; go_enter Tryz.func49, Tryz.ntmps49; go_wp2; go_ret; exact ⟨rfl, rfl⟩
  by_cases h2 : r = 2
  · subst h2; go_enter Tryz.func49, Tryz.ntmps49; go_wp2; go_ret; exact ⟨rfl, rfl⟩
  by_cases h3 : r = 3
  · subst h3; go_enter Tryz.func49, Tryz.ntmps49; go_wp2; go_ret; exact ⟨rfl, rfl⟩
  by_cases h4 : r = 4
  · subst h4; go_enter Tryz.func49, Tryz.ntmps49; go_wp2; go_ret; exact ⟨rfl, rfl⟩
  by_cases h5 : r = 5
  · subst h5; go_enter Tryz.func49, Tryz.ntmps49; go_wp2; go_ret; exact ⟨rfl, rfl⟩
  by_cases h6 : r = 6
  · subst h6; go_enter Tryz.func49, Tryz.ntmps49; go_wp2; go_ret; exact ⟨rfl, rfl⟩
  by_cases h7 : r = 7
  · subst h7; go_enter Tryz.func49, Tryz.ntmps49; go_wp2; go_ret; exact ⟨rfl, rfl⟩
  have hn : rateName r = [] := by simp [rateName, h1, h2, h3, h4, h5, h6, h7]
  rw [hn]
  have e1 : (r == 1) = false := beq_eq_false_iff_ne.2 h1
  have e2 : (r == 2) = false := beq_eq_false_iff_ne.2 h2
  have e3 : (r == 3) = false := beq_eq_false_iff_ne.2 h3
  have e4 : (r == 4) = false := beq_eq_false_iff_ne.2 h4
  have e5 : (r == 5) = false := beq_eq_false_iff_ne.2 h5
  have e6 : (r == 6) = false := beq_eq_false_iff_ne.2 h6
  have e7 : (r == 7) = false := beq_eq_false_iff_ne.2 h7
  clear h1 h2 h3 h4 h5 h6 h7 hn
  go_enter Tryz.func49, Tryz.ntmps49
  go_wp2
  go_ret
  exact ⟨rfl, rfl⟩

theorem list1_holds : Holds 59 (fun s => s == listS) := by
  intro s w hs hL
  go_enter Tryz.func59, Tryz.ntmps59
  go_wp2
  go_ret
  exact ⟨by rw [beq_toListBytes]; simp [listS, ba], Gr.refl _⟩
theorem list1_calls (s : ByteArray) (w : World) : (callFunc 59 #[.string s]).run Tryz.prog w = .ok (.enter 59 #[.string s]) w := by kernel_rfl

theorem rateOf_some (l : List UInt8) (k : Nat) (h1 : 1 ≤ k) (h7 : k ≤ 7) (h : rateName k = l) : rateOf l = k := by
  subst h
  obtain rfl | rfl | rfl | rfl | rfl | rfl | rfl : k = 1 ∨ k = 2 ∨ k = 3 ∨ k = 4 ∨ k = 5 ∨ k = 6 ∨ k = 7 := by omega
  all_goals decide
theorem rateOf_none (l : List UInt8) (h : ∀ j : Nat, 1 ≤ j → j < 8 → rateName j ≠ l) : rateOf l = 0 := by
  have h1 : ¬ l = [50, 52] := fun e => h 1 (by omega) (by omega) (by rw [e]; decide)
  have h2 : ¬ l = [50, 53] := fun e => h 2 (by omega) (by omega) (by rw [e]; decide)
  have h3 : ¬ l = [51, 48] := fun e => h 3 (by omega) (by omega) (by rw [e]; decide)
  have h4 : ¬ l = [51, 48, 100] := fun e => h 4 (by omega) (by omega) (by rw [e]; decide)
  have h5 : ¬ l = [53, 48] := fun e => h 5 (by omega) (by omega) (by rw [e]; decide)
  have h6 : ¬ l = [54, 48] := fun e => h 6 (by omega) (by omega) (by rw [e]; decide)
  have h7 : ¬ l = [54, 48, 100] := fun e => h 7 (by omega) (by omega) (by rw [e]; decide)
  unfold rateOf
  rw [if_neg h1, if_neg h2, if_neg h3, if_neg h4, if_neg h5, if_neg h6, if_neg h7]

theorem rateOf_any (s : ByteArray) (w : World) : Calls Tryz.prog 61 #[.string s] w fun e w' => e = .returned (.int .i64 (rateOf (bl s))) ∧ w' = w := by
  go_enter Tryz.func61, Tryz.ntmps61
  go_wp2
  go_loopg [3] 7 (fun g v wx => wx = w ∧ ∃ k : Nat, 1 ≤ k ∧ k + g = 8 ∧ v = .int .i64 k ∧ Hid (∀ j : Nat, 1 ≤ j → j < k → rateName j ≠ bl s))
  case atStart => exact ⟨rfl, 1, by omega, by omega, rfl, Lib.hid (fun j h1 h2 => absurd h1 (by omega))⟩
  case round =>
    obtain ⟨rfl, k, h1, hk, rfl, HK⟩ := hrel
    by_cases hlt : k ≤ 7
    · have d1 : decide ((k : Int) ≤ 7) = true := decide_eq_true (by omega)
      obtain ⟨t, ht⟩ : ∃ t, ba (rateName k) = t := ⟨_, rfl⟩
      have hc : Calls Tryz.prog 49 #[.int .i64 k] wr fun e w' => e = .returned (.string t) ∧ w' = wr := by rw [← ht]; exact rateName_any k wr
      have Ht := Lib.hid ht
      have Hc := Lib.hid hc
      clear ht hc
      cases he : (t.toList == s.toList) with
      | true =>
        go_wp2_with fail
        refine Hc.out.mono ?_
        rintro e w' ⟨rfl, rfl⟩
        have He := Lib.hid he
        go_wp2
        go_ret
        refine ⟨?_, rfl⟩
        have := He.out
        rw [ByteArray.toList_eq, ByteArray.toList_eq, beq_iff_eq, ← Ht.out] at this
        rw [rateOf_some (bl s) k h1 hlt this]
        rfl
      | false =>
        go_wp2_with fail
        refine Hc.out.mono ?_
        rintro e w' ⟨rfl, rfl⟩
        have He := Lib.hid he
        go_wp2
        go_roundg (gk - 1)
        case measure => omega
        case rel =>
          refine ⟨rfl, k + 1, by omega, by omega, by go_num, Lib.hid fun j hj1 hj2 => ?_⟩
          rcases Nat.lt_or_ge j k with hj | hj
          · exact HK.out j hj1 hj
          · obtain rfl : j = k := by omega
            have := He.out
            rw [ByteArray.toList_eq, ByteArray.toList_eq, beq_eq_false_iff_ne, ← Ht.out] at this
            exact this
    · have d1 : decide ((k : Int) ≤ 7) = false := decide_eq_false (by omega)
      go_wp2
      go_ret
      obtain rfl : k = 8 := by omega
      exact ⟨by rw [rateOf_none (bl s) HK.out]; rfl, rfl⟩

theorem list2_holds : Holds 60 (fun s => decide (rateOf (bl s) ≠ 0)) := by
  intro s w hs hL
  go_enter Tryz.func60, Tryz.ntmps60
  go_wp2_with fail
  refine (rateOf_any s w).mono ?_
  rintro e w' ⟨rfl, rfl⟩
  go_wp2
  go_ret
  refine ⟨?_, Gr.refl _⟩
  by_cases h : rateOf (bl s) = 0 <;> simp [h]
theorem list2_calls (s : ByteArray) (w : World) : (callFunc 60 #[.string s]).run Tryz.prog w = .ok (.enter 60 #[.string s]) w := by kernel_rfl

theorem event1_holds : Holds 64 (fun s => s == cutS || s == fadeS) := by
  intro s w hs hL
  have e1 : (s == cutS) = (s.toList == [99, 117, 116]) := by rw [beq_toListBytes]; simp [cutS, ba]
  have e2 : (s == fadeS) = (s.toList == [102, 97, 100, 101]) := by rw [beq_toListBytes]; simp [fadeS, ba]
  cases h1 : (s.toList == [99, 117, 116]) with
  | true =>
    go_enter Tryz.func64, Tryz.ntmps64
    go_wp2
    go_ret
    exact ⟨by simp only [e1, h1]; rfl, Gr.refl _⟩
  | false =>
    go_enter Tryz.func64, Tryz.ntmps64
    go_wp2
    go_ret
    exact ⟨by simp only [e1, e2, h1]; rfl, Gr.refl _⟩
theorem event1_calls (s : ByteArray) (w : World) : (callFunc 64 #[.string s]).run Tryz.prog w = .ok (.enter 64 #[.string s]) w := by kernel_rfl

theorem event3_holds : Holds 67 (fun s => nameOk (bl s)) := fun s w hs _ =>
  (isName_any s w (Nat.le_trans hs (by unfold maxLen; omega))).mono fun _ _ ⟨h, hw⟩ => ⟨h, hw ▸ Gr.refl _⟩
theorem event3_calls (s : ByteArray) (w : World) : (callFunc 67 #[.string s]).run Tryz.prog w = .ok (.enter 67 #[.string s]) w := by kernel_rfl

/-- What Atoi answers. -/
def AtoiEnd (e : Ending) : Lib.NumEnd Int → Prop
  | .ok v => e = .returned (.tuple #[.int .i64 v, .nilIface])
  | _ => ∃ (x : Int) (N : Nat), e = .returned (.tuple #[.int .i64 x, .iface 201 (.pointer (some ⟨N, 0, none⟩))])
theorem atoi_any (s : ByteArray) (w : World) (hs : s.size ≤ 20000) (hL : Laid w) : Calls Tryz.prog 66 #[.string s] w fun e w' => AtoiEnd e (Lib.atoiAll (bl s)) ∧ Gr w w' := by
  obtain ⟨tp, p, hsyn⟩ := hL.syn
  obtain ⟨tp', p', hran⟩ := hL.ran
  cases h : Lib.atoiAll (bl s) with
  | ok v =>
    refine (Tryz.strconv_Atoi_ok s (by omega) v h w).mono ?_
    rintro e w' ⟨rfl, hw⟩
    refine ⟨rfl, ?_⟩
    rcases hw with rfl | ⟨t, rfl⟩
    · exact Gr.refl _
    · exact Lib.bytesWorld_below w 5 t
  | range =>
    refine (Tryz.strconv_Atoi_range_var s (by omega) h tp' p' w hran).mono ?_
    rintro e w' ⟨N, rfl, _, _, hb⟩
    exact ⟨⟨_, N, rfl⟩, hb⟩
  | _ =>
    refine (Tryz.strconv_Atoi_syntax_var s (by omega) (fun v e => by cases h.symm.trans e) (fun e => by cases h.symm.trans e) tp p w hsyn).mono ?_
    rintro e w' ⟨N, rfl, _, _, hb⟩
    exact ⟨⟨_, N, rfl⟩, hb⟩

theorem itoa_any (n : Int) (h1 : 1 ≤ n) (h2 : n ≤ 100) (w : World) (hL : Laid w) : Calls Tryz.prog 91 #[.int .i64 n] w fun e w' => e = .returned (.string (ba (Lib.itoa n))) ∧ Gr w w' :=
  (Tryz.strconv_Itoa n (by omega) (by omega) w hL.pow).mono fun _ _ ⟨h, k, os, hw⟩ => ⟨h, hw ▸ Lib.below_grow _ w (Nat.le_refl _) k os⟩

theorem isFade_holds : Holds 65 (fun s => isFade (bl s)) := by
  intro s w hs hL
  cases ha : Lib.atoiAll (bl s) with
  | ok v =>
    have hc := atoi_any s w hs hL
    rw [ha] at hc
    have Ha := Lib.hid ha
    have HL := Lib.hid hL
    clear ha hL
    go_enter Tryz.func65, Tryz.ntmps65
    go_wp2_with fail
    refine hc.mono ?_
    rintro e w1 ⟨he, hg⟩
    obtain rfl := he
    by_cases h1 : 1 ≤ v
    · by_cases h2 : v ≤ 100
      · have d1 : decide (v ≥ 1) = true := decide_eq_true h1
        have d2 : decide (v ≤ 100) = true := decide_eq_true h2
        have d1' : decide (1 ≤ v) = true := decide_eq_true h1
        go_wp2_with fail
        refine (itoa_any v h1 h2 w1 (HL.out.grow hg)).mono ?_
        rintro e w2 ⟨rfl, hg2⟩
        go_wp2
        go_ret
        refine ⟨?_, hg.trans hg2⟩
        simp only [isFade, Ha.out, d1', d2, Bool.true_and]
        show Ending.returned (.bool ((ba (Lib.itoa v)).toList == s.toList)) = _
        rw [ByteArray.toList_eq, ByteArray.toList_eq]
        rfl
      · have d1' : decide (1 ≤ v) = true := decide_eq_true h1
        have d2 : decide (v ≤ 100) = false := decide_eq_false h2
        go_wp2
        go_ret
        refine ⟨?_, hg⟩
        simp [isFade, Ha.out, d2]
    · have d1' : decide (1 ≤ v) = false := decide_eq_false h1
      go_wp2
      go_ret
      refine ⟨?_, hg⟩
      simp [isFade, Ha.out, d1']
  | range =>
    have hc := atoi_any s w hs hL
    rw [ha] at hc
    have Ha := Lib.hid ha
    clear ha hL
    go_enter Tryz.func65, Tryz.ntmps65
    go_wp2_with fail
    refine hc.mono ?_
    rintro e w1 ⟨he, hg⟩
    obtain ⟨x, N, rfl⟩ := he
    go_wp2
    go_ret
    exact ⟨by simp only [isFade, Ha.out]; rfl, hg⟩
  | _ =>
    have hc := atoi_any s w hs hL
    rw [ha] at hc
    have Ha := Lib.hid ha
    clear ha hL
    go_enter Tryz.func65, Tryz.ntmps65
    go_wp2_with fail
    refine hc.mono ?_
    rintro e w1 ⟨he, hg⟩
    obtain ⟨x, N, rfl⟩ := he
    go_wp2
    go_ret
    exact ⟨by simp only [isFade, Ha.out]; rfl, hg⟩
theorem isFade_calls (s : ByteArray) (w : World) : (callFunc 65 #[.string s]).run Tryz.prog w = .ok (.enter 65 #[.string s]) w := by kernel_rfl
end Go.Proofs.Cuts
