/-
  dailiesref18: asked, placed, Name: what they return. Conditions: the rate is one, the frame is of its day.
-/
import Derived.Test.YtgimedhfhpiipaaGreatDoorRefTime
import Derived.Test.YtgimedhfhpiipaaGreatDoorPBack
import Derived.Deep.RegionHeld3
namespace Go.Proofs.Cuts
open Go.RowKit

/-- Which minute a name is of. -/
theorem dropped_out {r n m : Int} (hr : isRate r = true) (h0 : 0 ≤ m) (h1 : m < 1440) (ha : startOf r m ≤ n) (hb : n < startOf r (m + 1)) : dropped r n = outOf r (m + 1) := by
  rcases isRate_cases hr with rfl | rfl | rfl | rfl | rfl | rfl | rfl
  case inr.inr.inr.inl =>
    have e1 : startOf 4 m = 1800 * m - 2 * (m - (m + 9) / 10) := rfl
    have e2 : startOf 4 (m + 1) = 1800 * (m + 1) - 2 * ((m + 1) - (m + 1 + 9) / 10) := rfl
    have e3 : outOf 4 (m + 1) = 2 * ((m + 1) - (m + 1 + 9) / 10) := rfl
    have ed : dropped 4 n = (9 * (n / 17982) + if 1800 ≤ n % 17982 then 1 + (n % 17982 - 1800) / 1798 else 0) * 2 := rfl
    rw [e1] at ha
    rw [e2] at hb
    rw [ed, e3]
    obtain ⟨q, j, hq, hj0, hj1⟩ : ∃ q j : Int, m = 10 * q + j ∧ 0 ≤ j ∧ j < 10 := ⟨m / 10, m % 10, by omega, by omega, by omega⟩
    subst hq
    have hn : n / 17982 = q := by omega
    have hm : n % 17982 = n - 17982 * q := by omega
    rw [hn, hm]
    by_cases hj : j = 0
    · subst hj
      rw [if_neg (by omega)]
      omega
    · rw [if_pos (by omega)]
      have : (n - 17982 * q - 1800) / 1798 = j - 1 := by
        have : j = 1 ∨ j = 2 ∨ j = 3 ∨ j = 4 ∨ j = 5 ∨ j = 6 ∨ j = 7 ∨ j = 8 ∨ j = 9 := by omega
        rcases this with rfl | rfl | rfl | rfl | rfl | rfl | rfl | rfl | rfl <;> omega
      rw [this]
      omega
  case inr.inr.inr.inr.inr.inr =>
    have e1 : startOf 7 m = 3600 * m - 4 * (m - (m + 9) / 10) := rfl
    have e2 : startOf 7 (m + 1) = 3600 * (m + 1) - 4 * ((m + 1) - (m + 1 + 9) / 10) := rfl
    have e3 : outOf 7 (m + 1) = 4 * ((m + 1) - (m + 1 + 9) / 10) := rfl
    have ed : dropped 7 n = (9 * (n / 35964) + if 3600 ≤ n % 35964 then 1 + (n % 35964 - 3600) / 3596 else 0) * 4 := rfl
    rw [e1] at ha
    rw [e2] at hb
    rw [ed, e3]
    obtain ⟨q, j, hq, hj0, hj1⟩ : ∃ q j : Int, m = 10 * q + j ∧ 0 ≤ j ∧ j < 10 := ⟨m / 10, m % 10, by omega, by omega, by omega⟩
    subst hq
    have hn : n / 35964 = q := by omega
    have hm : n % 35964 = n - 35964 * q := by omega
    rw [hn, hm]
    by_cases hj : j = 0
    · subst hj
      rw [if_neg (by omega)]
      omega
    · rw [if_pos (by omega)]
      have : (n - 35964 * q - 3600) / 3596 = j - 1 := by
        have : j = 1 ∨ j = 2 ∨ j = 3 ∨ j = 4 ∨ j = 5 ∨ j = 6 ∨ j = 7 ∨ j = 8 ∨ j = 9 := by omega
        rcases this with rfl | rfl | rfl | rfl | rfl | rfl | rfl | rfl | rfl <;> omega
      rw [this]
      omega
  all_goals
    simp only [dropped, outOf, show rdrop 1 = 0 from rfl, show rdrop 2 = 0 from rfl, show rdrop 3 = 0 from rfl, show rdrop 5 = 0 from rfl, show rdrop 6 = 0 from rfl, Int.mul_zero, Int.zero_mul]
/-- The name of a number that lies in a minute. -/
theorem nameOf_placed {r n m k : Int} (hr : isRate r = true) (h0 : 0 ≤ m) (h1 : m < 1440) (ha : startOf r m ≤ n) (hb : n < startOf r (m + 1)) (hk : k = n - startOf r m + leftOf r m) :
    (0 ≤ k ∧ k < 60 * rcount r) ∧ nameOf r n = two (m / 60) ++ [58] ++ two (m % 60) ++ [58] ++ two (k / rcount r) ++ [UInt8.ofNat (markOf r)] ++ two (k % rcount r) := by
  have hd := dropped_out hr h0 h1 ha hb
  have hs := startOf_succ hr h0
  have ho := outOf_succ hr h0
  have hl := leftOf_range (r := r) (m := m)
  have hN : n + dropped r n = 60 * rcount r * m + k := by
    rw [hd, ho, hk]
    unfold startOf
    omega
  have hk2 : 0 ≤ k ∧ k < 60 * rcount r := by omega
  refine ⟨hk2, ?_⟩
  have hc : rcount r = 24 ∨ rcount r = 25 ∨ rcount r = 30 ∨ rcount r = 50 ∨ rcount r = 60 := by
    rcases isRate_cases hr with rfl | rfl | rfl | rfl | rfl | rfl | rfl <;> simp [rcount]
  unfold nameOf
  simp only [hN]
  have g : (60 * rcount r * m + k) / rcount r / 3600 = m / 60 ∧ (60 * rcount r * m + k) / rcount r / 60 % 60 = m % 60 ∧ (60 * rcount r * m + k) / rcount r % 60 = k / rcount r ∧ (60 * rcount r * m + k) % rcount r = k % rcount r := by
    rcases hc with e | e | e | e | e <;> rw [e] at hk2 ⊢ <;> omega
  rw [g.1, g.2.1, g.2.2.1, g.2.2.2]

theorem asked_any (r n : Int) (w : World) (hr : isRate r = true) (h0 : 0 ≤ n) (h1 : n < day r) :
    Calls Tryz.prog 84 #[.int .i64 r, .int .i64 n] w fun e w' => e = .returned (.int .i64 0) ∧ Gr w w' := by
  have Hd := Lib.hid (refDay_yes r w hr)
  obtain ⟨D, hD⟩ : ∃ D, day r = D := ⟨_, rfl⟩
  rw [hD] at Hd h1
  have n1 : decide (D ≤ n) = false := decide_eq_false (by omega)
  have n2 : decide (n < 0) = false := decide_eq_false (by omega)
  clear hr hD
  go_enter Tryz.func84, Tryz.ntmps84
  go_wp2_with fail
  refine Hd.out.mono ?_
  rintro e w1 ⟨rfl, hg⟩
  have HG := Lib.hid hg
  clear hg
  go_wp2
  go_ret
  exact ⟨rfl, HG.out⟩

/-- What placed answers. -/
def PlacedEnd (r n : Int) (e : Ending) : Prop := ∃ m k out : Int, e = .returned (.tuple #[.int .i64 m, .int .i64 k, .int .i64 out]) ∧ (0 ≤ m ∧ m < 1440) ∧ startOf r m ≤ n ∧ n < startOf r (m + 1) ∧ k = n - startOf r m + leftOf r m
set_option maxRecDepth 100000 in
theorem placed_any (r n : Int) (w : World) (hr : isRate r = true) (h0 : 0 ≤ n) (h1 : n < day r) :
    Calls Tryz.prog 85 #[.int .i64 r, .int .i64 n] w fun e w' => PlacedEnd r n e ∧ Gr w w' := by
  have Hc := Lib.hid (fun w => count_any r w hr)
  have Hl := Lib.hid (fun w m a b => left_any r m w hr a b)
  have Hs := Lib.hid (fun m => startOf_succ (r := r) (m := m) hr)
  have Ho := Lib.hid (fun m => outOf_succ (r := r) (m := m) hr)
  have Hg := Lib.hid (fun m => startOf_range (r := r) (m := m) hr)
  have Hf := Lib.hid (fun m => leftOf_range (r := r) (m := m))
  have hc := rcount_range r
  obtain ⟨c, hcc⟩ : ∃ c, rcount r = c := ⟨_, rfl⟩
  rw [hcc] at Hc Hs hc
  have hn6 : n ≤ 6000000 := by have := Hg.out 1440 (by omega) (by omega); rw [startOf_day] at this; omega
  have Hday := Lib.hid h1
  have H0 := Lib.hid h0
  clear hr hcc h1 h0
  go_enter Tryz.func85, Tryz.ntmps85
  go_wp2
  go_loopg [1, 7, 8] 1440 (fun g x y z wx => Gr w wx ∧ ∃ k : Nat, k + g = 1440 ∧ x = .int .i64 (n - startOf r k) ∧ y = .int .i64 (outOf r k) ∧ z = .int .i64 k ∧ Hid (startOf r k ≤ n))
  case atStart => exact ⟨Gr.refl _, 0, by omega, by rw [show ((0 : Nat) : Int) = 0 from rfl, startOf_zero, Int.sub_zero], by rw [show ((0 : Nat) : Int) = 0 from rfl]; simp [outOf], rfl, Lib.hid (by rw [show ((0 : Nat) : Int) = 0 from rfl, startOf_zero]; exact H0.out)⟩
  case round =>
    obtain ⟨hG, k, hk, rfl, rfl, rfl, hle⟩ := hrel
    by_cases hlt : k < 1440
    · have hs := Hs.out k (by omega)
      have ho := Ho.out k (by omega)
      have g1 := Hg.out k (by omega) (by omega)
      have l1 := Hf.out k
      obtain ⟨S, hS⟩ : ∃ S, startOf r k = S := ⟨_, rfl⟩
      obtain ⟨L, hL⟩ : ∃ L, leftOf r k = L := ⟨_, rfl⟩
      obtain ⟨O, hO⟩ : ∃ O, outOf r k = O := ⟨_, rfl⟩
      have Hlk := Lib.hid (fun w => Hl.out w k (by omega) (by omega))
      rw [hS] at hs g1 hle ⊢
      rw [hO] at g1 ho ⊢
      rw [hL] at hs ho l1 Hlk
      have hnS : S ≤ n := hle.out
      have Hs2 := Lib.hid hs
      have Ho2 := Lib.hid ho
      have HG := Lib.hid hG
      have HS := Lib.hid hS
      have HLL := Lib.hid hL
      clear hs ho hS hL hO hG hle
      by_cases hin : n - S < 60 * c - L
      · go_wp2_with fail
        refine (Hlk.out _).mono ?_
        rintro e w2 ⟨rfl, rfl⟩
        go_wp2_with fail
        refine (Hc.out _).mono ?_
        rintro e w2 ⟨rfl, rfl⟩
        go_wp2_with fail
        refine (Hlk.out _).mono ?_
        rintro e w2 ⟨rfl, rfl⟩
        go_wp2_with fail
        refine (Hlk.out _).mono ?_
        rintro e w2 ⟨rfl, rfl⟩
        go_wp2
        go_ret3
        exact ⟨⟨k, n - S + L, _, rfl, by omega, by rw [HS.out]; exact hnS, by rw [Hs2.out]; omega, by rw [HS.out, HLL.out]⟩, HG.out⟩
      · go_wp2_with fail
        refine (Hlk.out _).mono ?_
        rintro e w2 ⟨rfl, rfl⟩
        go_wp2_with fail
        refine (Hc.out _).mono ?_
        rintro e w2 ⟨rfl, rfl⟩
        go_wp2_with fail
        refine (Hlk.out _).mono ?_
        rintro e w2 ⟨rfl, rfl⟩
        go_wp2
        go_roundg (gk - 1)
        case measure => omega
        case rel =>
          refine ⟨HG.out, k + 1, by omega, ?_, ?_, by go_num, Lib.hid ?_⟩
          · rw [show ((k + 1 : Nat) : Int) = (k : Int) + 1 from rfl, Hs2.out]
            congr 1
            omega
          · rw [show ((k + 1 : Nat) : Int) = (k : Int) + 1 from rfl, Ho2.out]
          · rw [show ((k + 1 : Nat) : Int) = (k : Int) + 1 from rfl, Hs2.out]
            omega
    · obtain rfl : k = 1440 := by omega
      have := hle.out
      have hd := Hday.out
      rw [show ((1440 : Nat) : Int) = 1440 from rfl, startOf_day] at this
      omega

theorem bl_in {a b : ByteArray} (h : bl a = bl b) : a = b := by rw [← ba_bl' a, h, ba_bl']
theorem ret_s {a b : ByteArray} (h : a = b) : Ending.returned (.string a) = .returned (.string b) := by rw [h]
theorem two_some (x : Int) : ∃ S, ba (two x) = S ∧ S.size = 2 ∧ Hid (bl S = two x) := ⟨_, rfl, by rw [ba_sz]; rfl, Lib.hid (bl_ba _)⟩
theorem ret_p {a b : ByteArray} {x : Value} (h : a = b) : Ending.returned (.tuple #[.string a, x]) = .returned (.tuple #[.string b, x]) := by rw [h]
set_option maxRecDepth 100000 in
theorem refName_any (r n : Int) (w : World) (hr : isRate r = true) (h0 : 0 ≤ n) (h1 : n < day r) :
    Calls Tryz.prog 45 #[.int .i64 r, .int .i64 n] w fun e w' => e = .returned (.tuple #[.string (ba (nameOf r n)), .int .i64 0]) ∧ Gr w w' := by
  have Ha := Lib.hid (asked_any r n w hr h0 h1)
  have Hp := Lib.hid (fun w => placed_any r n w hr h0 h1)
  have Hc := Lib.hid (fun w => count_any r w hr)
  have Hb := Lib.hid (fun w => behind_any r w hr)
  have Hn := Lib.hid (fun m k => nameOf_placed (r := r) (n := n) (m := m) (k := k) hr)
  have hc : 24 ≤ rcount r ∧ rcount r ≤ 60 := by rcases isRate_cases hr with rfl | rfl | rfl | rfl | rfl | rfl | rfl <;> decide
  clear hr h0 h1
  go_enter Tryz.func45, Tryz.ntmps45
  go_wp2_with fail
  refine Ha.out.mono ?_
  rintro e w1 ⟨rfl, hg1⟩
  go_wp2_with fail
  refine (Hp.out _).mono ?_
  rintro e w2 ⟨⟨m, k, out, rfl, ⟨hm0, hm1⟩, hs0, hs1, hk⟩, hg2⟩
  obtain ⟨⟨hk0, hk1⟩, hN⟩ := Hn.out m k hm0 hm1 hs0 hs1 hk
  have HG2 := Lib.hid (hg1.trans hg2)
  have HN := Lib.hid hN
  obtain ⟨c, hcc⟩ : ∃ c, rcount r = c := ⟨_, rfl⟩
  obtain ⟨M, hM⟩ : ∃ M : List UInt8, [UInt8.ofNat (markOf r)] = M := ⟨_, rfl⟩
  obtain ⟨d, hd⟩ : ∃ d, k / c = d := ⟨_, rfl⟩
  obtain ⟨f, hf⟩ : ∃ f, k % c = f := ⟨_, rfl⟩
  have HM := Lib.hid hM
  rw [hM] at HN Hb
  rw [hcc] at hc Hc hk1 HN
  rw [hd, hf] at HN
  have hd2 : 0 ≤ d ∧ d < 60 := by
    rw [← hd]
    exact ⟨Int.ediv_nonneg hk0 (by omega), Int.ediv_lt_of_lt_mul (by omega) hk1⟩
  have hf2 : 0 ≤ f ∧ f < 60 := by
    rw [← hf]
    have := Int.emod_lt_of_pos k (show (0 : Int) < c by omega)
    exact ⟨Int.emod_nonneg _ (by omega), by omega⟩
  have hQ : k.tdiv c = d := by rw [Int.tdiv_eq_ediv_of_nonneg hk0, hd]
  have hR : k.tmod c = f := by rw [Int.tmod_eq_emod_of_nonneg hk0, hf]
  have hT0 : (c == 0) = false := beq_eq_false_iff_ne.2 (by omega)
  have hT1 : ¬ c = 0 := by omega
  have hwd : IntKind.i64.wrap d = d := IntWalk.i64_in _ (by omega)
  have hwf : IntKind.i64.wrap f = f := IntWalk.i64_in _ (by omega)
  clear hN hs0 hs1 hk hg1 hg2 hcc hM hd hf
  obtain ⟨S1, h1, z1, b1⟩ := two_some (m / 60)
  obtain ⟨S2, h2, z2, b2⟩ := two_some (m % 60)
  obtain ⟨S3, h3, z3, b3⟩ := two_some d
  obtain ⟨S4, h4, z4, b4⟩ := two_some f
  have zM : (ba M).size = 1 := by rw [← HM.out, ba_sz]; rfl
  have hsizes : ∀ a b : ByteArray, (a ++ b).size = a.size + b.size := fun a b => ByteArray.size_append
  have T1 := Lib.hid (fun w => two_s (m / 60) w (by omega) (by omega))
  have T2 := Lib.hid (fun w => two_s (m % 60) w (by omega) (by omega))
  have T3 := Lib.hid (fun w => two_s d w (by omega) (by omega))
  have T4 := Lib.hid (fun w => two_s f w (by omega) (by omega))
  rw [h1] at T1
  rw [h2] at T2
  rw [h3] at T3
  rw [h4] at T4
  clear h1 h2 h3 h4 HM
  go_wp2_with fail
  refine (T1.out _).mono ?_
  rintro e w3 ⟨rfl, hg3⟩
  have HG3 := Lib.hid (HG2.out.trans hg3)
  clear hg3
  go_wp2_with fail
  refine (T2.out _).mono ?_
  rintro e w4 ⟨rfl, hg4⟩
  have HG4 := Lib.hid (HG3.out.trans hg4)
  clear hg4
  go_wp2_with fail
  refine (Hc.out _).mono ?_
  rintro e w5 ⟨rfl, rfl⟩
  go_wp2_with fail
  refine (T3.out _).mono ?_
  rintro e w6 ⟨rfl, hg6⟩
  have HG6 := Lib.hid (HG4.out.trans hg6)
  clear hg6
  go_wp2_with fail
  refine (Hb.out _).mono ?_
  rintro e w7 ⟨rfl, rfl⟩
  go_wp2_with fail
  refine (Hc.out _).mono ?_
  rintro e w8 ⟨rfl, rfl⟩
  go_wp2_with fail
  refine (T4.out _).mono ?_
  rintro e w9 ⟨rfl, hg9⟩
  have HG9 := Lib.hid (HG6.out.trans hg9)
  clear hg9
  go_wp2
  go_ret2
  refine ⟨ret_p (bl_in ?_), HG9.out⟩
  rw [bl_ba, HN.out]
  simp only [bl_app, b1.out, b2.out, b3.out, b4.out, bl_ba]
  simp [bl]
end Go.Proofs.Cuts
