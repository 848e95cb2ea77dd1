/-
  dailiesref19: rateName, quoted, digits: what they return. Conditions: the rate is one; quoted's text has at most 1000 bytes; digits' number is from 0 to 999.
-/
import Derived.Test.YtgimedhfhpiipaaGreatDoorRefName
import Derived.Test.YtgimedhfhpiipaaGreatDoorWords
import Derived.Test.YtgimedhfhpiipaaGreatDoorPick
import Derived.Test.YtgimedhfhpiipaaGreatDoorName
namespace Go.Proofs.Cuts
open Go.RowKit

theorem refRateName_any (r : Int) (w : World) (hr : isRate r = true) :
    Calls Tryz.prog 42 #[.int .i64 r] w fun e w' => e = .returned (.string (ba (rateName r))) ∧ w' = w := by
  rcases isRate_cases hr with rfl | rfl | rfl | rfl | rfl | rfl | rfl
  all_goals
    go_enter Tryz.func42, Tryz.ntmps42
    go_wp2
    go_ret
    exact ⟨rfl, rfl⟩

theorem bl_at {s : ByteArray} {k : Nat} (h : k < s.size) : (bl s).drop k = s[k] :: (bl s).drop (k + 1) := by
  rw [List.drop_eq_getElem_cons (by rw [bl_length]; exact h), bl_get s k h]
set_option maxRecDepth 100000 in
theorem refQuoted_any (s : ByteArray) (w : World) (hs : s.size ≤ 1000) :
    Calls Tryz.prog 43 #[.string s] w fun e w' => e = .returned (.string (ba (34 :: (esc (bl s) ++ [34])))) ∧ w' = w := by
  have hsizes : ∀ a b : ByteArray, (a ++ b).size = a.size + b.size := fun a b => ByteArray.size_append
  obtain ⟨n, hn⟩ : ∃ n, s.size = n := ⟨_, rfl⟩
  go_enter Tryz.func43, Tryz.ntmps43
  go_wp2
  go_loopg [3, 4] s.size (fun g u v wx => wx = w ∧ ∃ (k : Nat) (S : ByteArray), k + g = s.size ∧ u = .string S ∧ v = .int .i64 k ∧ S.size ≤ 1 + 2 * k ∧ Hid (bl S ++ esc ((bl s).drop k) = 34 :: esc (bl s)))
  case atStart => exact ⟨rfl, 0, _, by omega, rfl, rfl, by decide, Lib.hid rfl⟩
  case round =>
    obtain ⟨rfl, k, S, hk, rfl, rfl, hS, HK⟩ := hrel
    by_cases hlt : k < s.size
    · have hd := bl_at hlt
      have hcut : ∀ w, (Instr.slice 9 (.string s) (some (.int .i64 (k : Int))) (some (.int .i64 ((k : Int) + 1))) none).run Tryz.prog w = .ok (.string (s.extract k (k + 1))) w := fun w => run_cut s k (k + 1) _ _ rfl (by simp) (by omega) (by omega) w
      have hX : bl (s.extract k (k + 1)) = [s[k]] := by
        rw [bl_extract, List.drop_take, hd]
        simp
      obtain ⟨X, hXX⟩ : ∃ X, s.extract k (k + 1) = X := ⟨_, rfl⟩
      rw [hXX] at hcut hX
      have hXs : X.size = 1 := by rw [← bl_length, hX]; rfl
      obtain ⟨b, hb⟩ : ∃ b : UInt8, s[k]'hlt = b := ⟨_, rfl⟩
      obtain ⟨c, hc⟩ : ∃ c : Nat, b.toNat = c := ⟨_, rfl⟩
      rw [hb] at hd hX
      have hbc : (s[k]'hlt).toNat = c := by rw [hb, hc]
      have HX := Lib.hid hX
      have HD := Lib.hid hd
      have HC := Lib.hid hc
      clear hXX hX hd hb hc
      by_cases h34 : c = 34
      · subst h34
        go_wp2
        go_roundg (gk - 1)
        case measure => omega
        case rel =>
          refine ⟨rfl, k + 1, _, by omega, rfl, by go_num, by rw [hsizes]; show _ + 2 ≤ _; omega, Lib.hid ?_⟩
          have hb : b = 34 := UInt8.toNat_inj.1 HC.out
          rw [← HK.out, HD.out, hb, bl_app, esc, if_pos (.inl rfl)]
          simp [bl]
      · by_cases h92 : c = 92
        · subst h92
          go_wp2
          go_roundg (gk - 1)
          case measure => omega
          case rel =>
            refine ⟨rfl, k + 1, _, by omega, rfl, by go_num, by rw [hsizes]; show _ + 2 ≤ _; omega, Lib.hid ?_⟩
            have hb : b = 92 := UInt8.toNat_inj.1 HC.out
            rw [← HK.out, HD.out, hb, bl_app, esc, if_pos (.inr rfl)]
            simp [bl]
        · by_cases h10 : c = 10
          · subst h10
            go_wp2
            go_roundg (gk - 1)
            case measure => omega
            case rel =>
              refine ⟨rfl, k + 1, _, by omega, rfl, by go_num, by rw [hsizes]; show _ + 2 ≤ _; omega, Lib.hid ?_⟩
              have hb : b = 10 := UInt8.toNat_inj.1 HC.out
              rw [← HK.out, HD.out, hb, bl_app, esc, if_neg (by decide), if_pos rfl]
              simp [bl]
          · have Hne := Lib.hid (And.intro h34 (And.intro h92 h10))
            have e1 : ((c : Int) == 34) = false := beq_eq_false_iff_ne.2 (by omega)
            have e2 : ((c : Int) == 92) = false := beq_eq_false_iff_ne.2 (by omega)
            have e3 : ((c : Int) == 10) = false := beq_eq_false_iff_ne.2 (by omega)
            go_wp2
            go_roundg (gk - 1)
            case measure => omega
            case rel =>
              refine ⟨rfl, k + 1, _, by omega, rfl, by go_num, by rw [hsizes]; omega, Lib.hid ?_⟩
              have g1 : ¬ (b = 34 ∨ b = 92) := by
                rintro (e | e)
                · exact Hne.out.1 (by rw [← HC.out, e]; rfl)
                · exact Hne.out.2.1 (by rw [← HC.out, e]; rfl)
              have g2 : ¬ b = 10 := fun e => Hne.out.2.2 (by rw [← HC.out, e]; rfl)
              rw [← HK.out, HD.out, bl_app, HX.out, esc, if_neg g1, if_neg g2]
              simp
    · obtain rfl : k = s.size := by omega
      go_wp2
      go_ret
      refine ⟨ret_s (bl_in ?_), rfl⟩
      have := HK.out
      rw [List.drop_of_length_le (by rw [bl_length]; omega), esc, List.append_nil] at this
      rw [bl_app, bl_ba, this]
      rfl
set_option maxRecDepth 100000 in
theorem refDigits_any (n : Nat) (w : World) (hn : n < 1000) :
    Calls Tryz.prog 44 #[.int .i64 n] w fun e w' => e = .returned (.string (ba (dg n))) ∧ w' = w := by
  obtain ⟨D, hD, hDs, HD⟩ := ten_some (n % 10) (by omega)
  go_enter Tryz.func44, Tryz.ntmps44
  go_wp2
  go_loopg [0, 3] (n + 1) (fun g u s wx => wx = w ∧ ∃ (q : Nat) (S : ByteArray), u = .int .i64 q ∧ q < g ∧ q < 1000 ∧ s = .string S ∧ S.size ≤ 1000 - q ∧ Hid (∃ l, S = ba l ∧ (if q = 0 then [] else dg q) ++ l = dg n))
  case atStart =>
    refine ⟨rfl, n / 10, D, by simp, by omega, by omega, by rw [hD], by omega, Lib.hid ⟨[UInt8.ofNat (48 + n % 10)], HD.out, ?_⟩⟩
    by_cases h : n < 10
    · rw [if_pos (show n / 10 = 0 by omega), dg_small h, Nat.mod_eq_of_lt h]; rfl
    · rw [if_neg (show ¬ n / 10 = 0 by omega), dg_big h]
  case round =>
    obtain ⟨rfl, q, S, rfl, hg, hq, rfl, hS, HK⟩ := hrel
    obtain ⟨g, rfl⟩ : ∃ g, gk = g + 1 := ⟨gk - 1, by omega⟩
    clear hD hDs
    by_cases h1 : 0 < q
    · obtain ⟨E, hE, hEs, HE⟩ := ten_some (q % 10) (by omega)
      have hsum : E.size + S.size ≤ 1000 - q / 10 := by omega
      go_wp2
      go_roundg g
      case measure => omega
      case rel =>
        refine ⟨rfl, q / 10, E ++ S, by simp, by omega, by omega, rfl, by rw [ByteArray.size_append]; omega, Lib.hid ?_⟩
        obtain ⟨l, hl, hk⟩ := HK.out
        refine ⟨UInt8.ofNat (48 + q % 10) :: l, by rw [HE.out, hl, ba_append]; rfl, ?_⟩
        rw [← hk, if_neg (show ¬ q = 0 by omega)]
        by_cases h : q < 10
        · rw [if_pos (show q / 10 = 0 by omega), dg_small h, Nat.mod_eq_of_lt h]; rfl
        · rw [if_neg (show ¬ q / 10 = 0 by omega), dg_big h, List.append_assoc]; rfl
    · obtain rfl : q = 0 := by omega
      obtain ⟨l, hl, hk⟩ := HK.out
      have e : S = ba (dg n) := by rw [hl]; congr 1
      have He := Lib.hid e
      clear hk hl e
      go_wp2
      go_ret
      exact ⟨by rw [← He.out]; rfl, rfl⟩
end Go.Proofs.Cuts
