/-
  dailiesref18: count, left, Rate, PerDay, two, behind: what they return. Conditions: count's rate is one; two's number is from 0 to 99.
-/
import Derived.Test.YtgimedhfhpiipaaGreatDoorBase
import Derived.Test.YtgimedhfhpiipaaGreatDoorTimecode
import Derived.Test.YtgimedhfhpiipaaGreatDoorPTime
import Derived.Test.YtgimedhfhpiipaaGreatDoorQuote
import Derived.Laws.DeepStrings4
import Derived.Deep.RegionHeld3
namespace Go.Proofs.Cuts
open Go.RowKit

theorem bl_app (a b : ByteArray) : bl (a ++ b) = bl a ++ bl b := by
  simp [bl, ByteArray.data_append]
theorem ba_sz (a : List UInt8) : (ba a).size = a.length := by
  show a.toArray.size = _
  simp
theorem count_any (r : Int) (w : World) (hr : isRate r = true) :
    Calls Tryz.prog 87 #[.int .i64 r] w fun e w' => e = .returned (.int .i64 (rcount r)) ∧ w' = w := by
  rcases isRate_cases hr with rfl | rfl | rfl | rfl | rfl | rfl | rfl
  all_goals
    go_enter Tryz.func87, Tryz.ntmps87
    go_wp2
    go_ret
    exact ⟨rfl, rfl⟩
/-- How many names a minute leaves out. -/
def leftOf (r m : Int) : Int := if m % 10 = 0 then 0 else rdrop r
theorem left_any (r m : Int) (w : World) (hr : isRate r = true) (h0 : 0 ≤ m) (h1 : m < 2000) :
    Calls Tryz.prog 108 #[.int .i64 r, .int .i64 m] w fun e w' => e = .returned (.int .i64 (leftOf r m)) ∧ w' = w := by
  unfold leftOf
  by_cases hm : m % 10 = 0
  · rw [if_pos hm]
    go_enter Tryz.func108, Tryz.ntmps108
    go_wp2
    go_ret
    exact ⟨rfl, rfl⟩
  · rw [if_neg hm]
    have ht2 : (m % 10 == 0) = false := beq_eq_false_iff_ne.2 hm
    rcases isRate_cases hr with rfl | rfl | rfl | rfl | rfl | rfl | rfl
    all_goals
      go_enter Tryz.func108, Tryz.ntmps108
      go_wp2
      go_ret
      exact ⟨rfl, rfl⟩
theorem rate_any (r : Int) (w : World) :
    Calls Tryz.prog 124 #[.int .i64 r] w fun e w' => e = .returned (.bool (isRate r)) ∧ w' = w := by
  unfold isRate
  by_cases h : 1 ≤ r
  · by_cases h2 : r ≤ 7
    · rw [decide_eq_true h, decide_eq_true h2]
      go_enter Tryz.func124, Tryz.ntmps124
      go_wp2
      go_ret
      exact ⟨rfl, rfl⟩
    · rw [decide_eq_true h, decide_eq_false h2]
      go_enter Tryz.func124, Tryz.ntmps124
      go_wp2
      go_ret
      exact ⟨rfl, rfl⟩
  · rw [decide_eq_false h]
    go_enter Tryz.func124, Tryz.ntmps124
    go_wp2
    go_ret
    exact ⟨rfl, rfl⟩
theorem refDay_no (r : Int) (w : World) (h : isRate r = false) :
    Calls Tryz.prog 107 #[.int .i64 r] w fun e w' => e = .returned (.tuple #[.int .i64 0, .int .i64 181]) ∧ w' = w := by
  have Hr := Lib.hid (rate_any r w)
  rw [h] at Hr
  clear h
  go_enter Tryz.func107, Tryz.ntmps107
  go_wp2_with fail
  refine Hr.out.mono ?_
  rintro e w1 ⟨rfl, rfl⟩
  go_wp2
  go_ret2
  exact ⟨rfl, rfl⟩
/-- How many names the minutes ahead of one leave out; how many they have. -/
def outOf (r m : Int) : Int := rdrop r * (m - (m + 9) / 10)
def startOf (r m : Int) : Int := 60 * rcount r * m - outOf r m
theorem outOf_succ {r m : Int} (hr : isRate r = true) (_h0 : 0 ≤ m) : outOf r (m + 1) = outOf r m + leftOf r m := by
  unfold outOf leftOf
  have hd : rdrop r = 0 ∨ rdrop r = 2 ∨ rdrop r = 4 := by rcases isRate_cases hr with rfl | rfl | rfl | rfl | rfl | rfl | rfl <;> simp [rdrop]
  rcases hd with e | e | e <;> rw [e] <;> split <;> omega
theorem startOf_succ {r m : Int} (hr : isRate r = true) (h0 : 0 ≤ m) : startOf r (m + 1) = startOf r m + (60 * rcount r - leftOf r m) := by
  unfold startOf
  rw [outOf_succ hr h0, Int.mul_add, Int.mul_one]
  omega
theorem startOf_day {r : Int} : startOf r 1440 = day r := by
  unfold startOf outOf day
  omega
theorem startOf_range {r m : Int} (hr : isRate r = true) (h0 : 0 ≤ m) (h1 : m ≤ 1440) : 0 ≤ startOf r m ∧ startOf r m ≤ 6000000 ∧ 0 ≤ outOf r m ∧ outOf r m ≤ 6000 := by
  unfold startOf outOf
  have hd : (rdrop r = 0 ∨ rdrop r = 2 ∨ rdrop r = 4) := by rcases isRate_cases hr with rfl | rfl | rfl | rfl | rfl | rfl | rfl <;> simp [rdrop]
  have hc : rcount r = 24 ∨ rcount r = 25 ∨ rcount r = 30 ∨ rcount r = 50 ∨ rcount r = 60 := by
    rcases isRate_cases hr with rfl | rfl | rfl | rfl | rfl | rfl | rfl <;> simp [rcount]
  rcases hd with e | e | e <;> rcases hc with f | f | f | f | f <;> rw [e, f] <;> omega
theorem leftOf_range {r m : Int} : 0 ≤ leftOf r m ∧ leftOf r m ≤ 4 := by
  have := rdrop_range r
  unfold leftOf; split <;> omega
theorem startOf_zero {r : Int} : startOf r 0 = 0 := by
  unfold startOf outOf
  simp
set_option maxRecDepth 100000 in
theorem refDay_yes (r : Int) (w : World) (h : isRate r = true) :
    Calls Tryz.prog 107 #[.int .i64 r] w fun e w' => e = .returned (.tuple #[.int .i64 (day r), .int .i64 0]) ∧ Gr w w' := by
  have hra := fun w => rate_any r w
  rw [h] at hra
  have Hra := Lib.hid hra
  have Hc := Lib.hid (fun w => count_any r w h)
  have Hl := Lib.hid (fun w m a b => left_any r m w h a b)
  have Hs := Lib.hid (fun m => startOf_succ (r := r) (m := m) h)
  have Hg := Lib.hid (fun m => startOf_range (r := r) (m := m) h)
  have Hf := Lib.hid (fun m => leftOf_range (r := r) (m := m))
  have hc := rcount_range r
  obtain ⟨c, hcc⟩ : ∃ c, rcount r = c := ⟨_, rfl⟩
  rw [hcc] at Hc Hs hc
  clear hra h hcc
  go_enter Tryz.func107, Tryz.ntmps107
  go_wp2_with fail
  refine (Hra.out _).mono ?_
  rintro e w1 ⟨rfl, rfl⟩
  go_wp2
  go_loopg [5, 6] 1440 (fun g v u wx => Gr w1 wx ∧ ∃ k : Nat, k + g = 1440 ∧ v = .int .i64 (startOf r k) ∧ u = .int .i64 k)
  case atStart => exact ⟨Gr.refl _, 0, by omega, by rw [show ((0 : Nat) : Int) = 0 from rfl, startOf_zero], rfl⟩
  case round =>
    obtain ⟨hG, k, hk, rfl, rfl⟩ := hrel
    by_cases hlt : k < 1440
    · have hs := Hs.out k (by omega)
      have g1 := Hg.out k (by omega) (by omega)
      have l1 := Hf.out k
      obtain ⟨S, hS⟩ : ∃ S, startOf r k = S := ⟨_, rfl⟩
      obtain ⟨L, hL⟩ : ∃ L, leftOf r k = L := ⟨_, rfl⟩
      have Hlk := Lib.hid (fun w => Hl.out w k (by omega) (by omega))
      rw [hS] at hs g1 ⊢
      rw [hL] at hs l1 Hlk
      have Hs2 := Lib.hid hs
      have HG := Lib.hid hG
      clear hs hS hL hG
      go_wp2_with fail
      refine (Hc.out _).mono ?_
      rintro e w2 ⟨rfl, rfl⟩
      go_wp2_with fail
      refine (Hlk.out _).mono ?_
      rintro e w2 ⟨rfl, rfl⟩
      go_wp2
      go_roundg (gk - 1)
      case measure => omega
      case rel =>
        refine ⟨HG.out, k + 1, by omega, ?_, by go_num⟩
        rw [show ((k + 1 : Nat) : Int) = (k : Int) + 1 from rfl, Hs2.out]
        congr 1
        omega
    · obtain rfl : k = 1440 := by omega
      go_wp2
      go_ret2
      exact ⟨by rw [← startOf_day]; rfl, hG⟩
set_option maxRecDepth 100000 in
theorem two_s (n : Int) (w : World) (h0 : 0 ≤ n) (h1 : n < 100) :
    Calls Tryz.prog 86 #[.int .i64 n] w fun e w' => e = .returned (.string (ba (two n))) ∧ Gr w w' := by
  obtain ⟨k, rfl⟩ : ∃ k : Nat, n = k := ⟨n.toNat, by omega⟩
  have key : ∀ k : Fin 100, strOfNums [48 + (k.val : Int) / 10, 48 + (k.val : Int) % 10] = ba (two (k.val : Int)) := by decide +kernel
  have hk := key ⟨k, by omega⟩
  have hx : (convert 160 9 (.slice (some ⟨w.heap.size, 0, none⟩) 2 2)).run Tryz.prog (w.alloc (.cells #[.int .u8 (48 + (k : Int) / 10), .int .u8 (48 + (k : Int) % 10)] 5)) = .ok (.string (ba (two k))) (w.alloc (.cells #[.int .u8 (48 + (k : Int) / 10), .int .u8 (48 + (k : Int) % 10)] 5)) := by
    rw [← hk]
    refine run_convert_bytes_arg _ 160 5 Tryz.underlying160 Tryz.underlying5 w.heap.size 0 2 2 [48 + (k : Int) / 10, 48 + (k : Int) % 10] rfl (fun i hi => ?_) 9 Tryz.underlying9
    have hi2 : i < 2 := hi

    rcases (show i = 0 ∨ i = 1 by omega) with rfl | rfl <;> (show World.cell? _ _ = _; rw [World.cell?_alloc_new]; rfl)
  clear key hk
  go_enter Tryz.func86, Tryz.ntmps86
  go_wp2
  go_ret
  exact ⟨rfl, (Gr.refl _).alloc _⟩
theorem behind_any (r : Int) (w : World) (hr : isRate r = true) :
    Calls Tryz.prog 88 #[.int .i64 r] w fun e w' => e = .returned (.string (ba [UInt8.ofNat (markOf r)])) ∧ w' = w := by
  have Hl := Lib.hid (left_any r 1 w hr (by omega) (by omega))
  rcases isRate_cases hr with rfl | rfl | rfl | rfl | rfl | rfl | rfl
  all_goals
    go_enter Tryz.func88, Tryz.ntmps88
    go_wp2_with fail
    refine Hl.out.mono ?_
    rintro e w1 ⟨rfl, rfl⟩
    go_wp2
    go_ret
    exact ⟨rfl, rfl⟩
end Go.Proofs.Cuts
