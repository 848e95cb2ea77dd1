/-
  dailieslaw19.pick and digits: what they return. Conditions: pick's n is above 0; digits' number is from 0 to 999.
-/
import Derived.Test.YtgimedhfhpiipaaGreatDoorBase
import Derived.Laws.DeepStrings4
namespace Go.Proofs.Cuts
open Go.RowKit

/-- pick tells one of the n numbers below n. -/
theorem pick_any (c : Int) (n : Nat) (w : World) (hn : 0 < n) (hn2 : n ≤ 1000) (hc : -9223372036854775808 ≤ c ∧ c ≤ 9223372036854775807) :
    Calls Tryz.prog 19 #[.int .i64 c, .int .i64 n] w fun e w' => (∃ k : Nat, k < n ∧ e = .returned (.int .i64 k)) ∧ w' = w := by
  by_cases h0 : c < 0
  · have h1 : decide (c < 0) = true := decide_eq_true h0
    obtain ⟨d, hd⟩ : ∃ d : Int, -(c + 1) = d := ⟨_, rfl⟩
    have e1 : IntKind.i64.wrap (c + 1) = c + 1 := IntWalk.i64_in _ (by omega)
    have hd0 : 0 ≤ d ∧ d ≤ 9223372036854775807 := by omega
    obtain ⟨k, hk⟩ : ∃ k : Nat, d % (n : Int) = k := ⟨(d % n).toNat, (Int.toNat_of_nonneg (Int.emod_nonneg _ (by omega))).symm⟩
    have hkn : k < n := by have := Int.emod_lt_of_pos d (show (0 : Int) < n by omega); omega
    have Hk := Lib.hid (And.intro hk hkn)
    have Hd := Lib.hid hd
    clear hk hkn hd e1
    go_enter Tryz.func19, Tryz.ntmps19
    go_wp2
    go_ret
    refine ⟨⟨k, Hk.out.2, ?_⟩, rfl⟩
    rw [← Hk.out.1, ← Hd.out]
    show Ending.returned (.int .i64 (-((c + 1).tmod n))) = _
    rw [← Int.neg_tmod, Int.tmod_eq_emod_of_nonneg (by omega)]
  · have h1 : decide (c < 0) = false := decide_eq_false h0
    obtain ⟨k, hk⟩ : ∃ k : Nat, c % (n : Int) = k := ⟨(c % n).toNat, (Int.toNat_of_nonneg (Int.emod_nonneg _ (by omega))).symm⟩
    have hkn : k < n := by have := Int.emod_lt_of_pos c (show (0 : Int) < n by omega); omega
    have Hk := Lib.hid (And.intro hk hkn)
    clear hk hkn
    go_enter Tryz.func19, Tryz.ntmps19
    go_wp2
    go_ret
    refine ⟨⟨k, Hk.out.2, ?_⟩, rfl⟩
    rw [← Hk.out.1]
    rfl

/-! ### digits -/
/-- A number's digits. -/
def dg (n : Nat) : List UInt8 := if n < 10 then [UInt8.ofNat (48 + n)] else dg (n / 10) ++ [UInt8.ofNat (48 + n % 10)]
termination_by n
theorem dg_small {n : Nat} (h : n < 10) : dg n = [UInt8.ofNat (48 + n)] := by rw [dg, if_pos h]
theorem dg_big {n : Nat} (h : ¬ n < 10) : dg n = dg (n / 10) ++ [UInt8.ofNat (48 + n % 10)] := by rw [dg, if_neg h]
def tenDigits : ByteArray := ⟨#[48, 49, 50, 51, 52, 53, 54, 55, 56, 57]⟩
theorem ten_at : ∀ r : Fin 10, (⟨#[48, 49, 50, 51, 52, 53, 54, 55, 56, 57]⟩ : ByteArray).extract r.val (r.val + 1) = ba [UInt8.ofNat (48 + r.val)] := by decide +kernel
theorem ten_lit (r : Nat) (h : r < 10) : (⟨#[48, 49, 50, 51, 52, 53, 54, 55, 56, 57]⟩ : ByteArray).extract r (r + 1) = ba [UInt8.ofNat (48 + r)] := ten_at ⟨r, h⟩
theorem ba_append (a b : List UInt8) : ba a ++ ba b = ba (a ++ b) := by
  apply ByteArray.ext
  simp [ba, ByteArray.data_append]
theorem ba_size (a : List UInt8) : (ba a).size = a.length := by
  show a.toArray.size = _
  simp
theorem ten_some (r : Nat) (h : r < 10) : ∃ D : ByteArray, (⟨#[48, 49, 50, 51, 52, 53, 54, 55, 56, 57]⟩ : ByteArray).extract r (r + 1) = D ∧ D.size ≤ 1 ∧ Hid (D = ba [UInt8.ofNat (48 + r)]) :=
  ⟨_, ten_lit r h, by rw [ba_size]; simp, Lib.hid rfl⟩
set_option maxRecDepth 100000 in
theorem digits_any (n : Nat) (w : World) (hn : n < 1000) :
    Calls Tryz.prog 48 #[.int .i64 n] w fun e w' => e = .returned (.string (ba (dg n))) ∧ w' = w := by
  have h0 : decide ((n : Int) < 0) = false := decide_eq_false (by omega)
  obtain ⟨D, hD, hDs, HD⟩ := ten_some (n % 10) (by omega)
  go_enter Tryz.func48, Tryz.ntmps48
  go_wp2
  go_loopg [4, 5] (n + 1) (fun g u s wx => wx = w ∧ ∃ (q : Nat) (S : ByteArray), u = .int .u64 q ∧ q < g ∧ q < 1000 ∧ s = .string S ∧ S.size ≤ 1000 - q ∧ Hid (∃ l, S = ba l ∧ (if q = 0 then [] else dg q) ++ l = dg n))
  case atStart =>
    refine ⟨rfl, n / 10, D, by simp, by omega, by omega, by rw [hD], by omega, Lib.hid ⟨[UInt8.ofNat (48 + n % 10)], HD.out, ?_⟩⟩
    by_cases h : n < 10
    · rw [if_pos (show n / 10 = 0 by omega), dg_small h, Nat.mod_eq_of_lt h]; rfl
    · rw [if_neg (show ¬ n / 10 = 0 by omega), dg_big h]
  case round =>
    obtain ⟨rfl, q, S, rfl, hg, hq, rfl, hS, HK⟩ := hrel
    obtain ⟨g, rfl⟩ : ∃ g, gk = g + 1 := ⟨gk - 1, by omega⟩
    clear hD hDs
    by_cases h1 : 0 < q
    · obtain ⟨E, hE, hEs, HE⟩ := ten_some (q % 10) (by omega)
      have hsum : E.size + S.size ≤ 1000 - q / 10 := by omega
      go_wp2
      go_roundg g
      case measure => omega
      case rel =>
        refine ⟨rfl, q / 10, E ++ S, by simp, by omega, by omega, rfl, by rw [ByteArray.size_append]; omega, Lib.hid ?_⟩
        obtain ⟨l, hl, hk⟩ := HK.out
        refine ⟨UInt8.ofNat (48 + q % 10) :: l, by rw [HE.out, hl, ba_append]; rfl, ?_⟩
        rw [← hk, if_neg (show ¬ q = 0 by omega)]
        by_cases h : q < 10
        · rw [if_pos (show q / 10 = 0 by omega), dg_small h, Nat.mod_eq_of_lt h]; rfl
        · rw [if_neg (show ¬ q / 10 = 0 by omega), dg_big h, List.append_assoc]; rfl
    · obtain rfl : q = 0 := by omega
      obtain ⟨l, hl, hk⟩ := HK.out
      have e : S = ba (dg n) := by rw [hl]; congr 1
      have He := Lib.hid e
      have hse : (⟨#[]⟩ : ByteArray) ++ S = S := by apply ByteArray.ext; simp [ByteArray.data_append]
      clear hk hl e
      go_wp2
      go_ret
      exact ⟨by rw [← He.out]; rfl, rfl⟩
/-- digits is Itoa. -/
theorem dg_dec (n : Nat) : dg n = Lib.decDigits n := by
  induction n using Nat.strongRecOn with
  | _ n ih =>
    by_cases h : n < 10
    · rw [dg_small h, Lib.decDigits, dif_pos h]
    · rw [dg_big h, Lib.decDigits, dif_neg h, ih _ (by omega)]
theorem dg_itoa (n : Nat) : dg n = Lib.itoa (n : Int) := by
  rw [dg_dec, Lib.itoa, if_neg (by omega), Int.toNat_natCast]
end Go.Proofs.Cuts
