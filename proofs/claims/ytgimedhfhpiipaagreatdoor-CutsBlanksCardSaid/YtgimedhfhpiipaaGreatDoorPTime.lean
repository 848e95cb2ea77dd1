/-
  A name of a day's frame is read as that frame's number: plain law, no program in sight. Conditions: the rate is one, the frame is of its day.
-/
import Derived.Test.YtgimedhfhpiipaaGreatDoorSpec
namespace Go.Proofs.Cuts

theorem two_ok {x : Int} (h0 : 0 ≤ x) (h1 : x < 100) : ∃ a b : UInt8, two x = [a, b] ∧ dig a = true ∧ dig b = true ∧ 10 * dval a + dval b = x := by
  refine ⟨_, _, rfl, ?_, ?_, ?_⟩
  · have : (UInt8.ofNat (48 + (x / 10).toNat)).toNat = 48 + (x / 10).toNat := by rw [UInt8.toNat_ofNat']; omega
    simp only [dig, this, Bool.and_eq_true, decide_eq_true_eq]; omega
  · have : (UInt8.ofNat (48 + (x % 10).toNat)).toNat = 48 + (x % 10).toNat := by rw [UInt8.toNat_ofNat']; omega
    simp only [dig, this, Bool.and_eq_true, decide_eq_true_eq]; omega
  · have e1 : (UInt8.ofNat (48 + (x / 10).toNat)).toNat = 48 + (x / 10).toNat := by rw [UInt8.toNat_ofNat']; omega
    have e2 : (UInt8.ofNat (48 + (x % 10).toNat)).toNat = 48 + (x % 10).toNat := by rw [UInt8.toNat_ofNat']; omega
    simp only [dval, e1, e2]; omega
theorem mark_ok (r : Int) : (UInt8.ofNat (markOf r)).toNat = markOf r := by
  unfold markOf; split <;> rfl

theorem number_parts (r h m s f : Int) (hr : isRate r = true) (h0 : 0 ≤ h) (h1 : h ≤ 23) (m0 : 0 ≤ m) (m1 : m ≤ 59) (s0 : 0 ≤ s) (s1 : s ≤ 59) (f0 : 0 ≤ f) (f1 : f < rcount r) (f2 : f < 100) (hd : ¬ (m % 10 ≠ 0 ∧ s = 0 ∧ f < rdrop r)) :
    number r (two h ++ [58] ++ two m ++ [58] ++ two s ++ [UInt8.ofNat (markOf r)] ++ two f) = some (rcount r * (60 * (60 * h + m) + s) + f - rdrop r * ((60 * h + m) - (60 * h + m) / 10)) := by
  obtain ⟨a1, a2, ea, da1, da2, va⟩ := two_ok (x := h) h0 (by omega)
  obtain ⟨b1, b2, eb, db1, db2, vb⟩ := two_ok (x := m) m0 (by omega)
  obtain ⟨c1, c2, ec, dc1, dc2, vc⟩ := two_ok (x := s) s0 (by omega)
  obtain ⟨d1, d2, ed, dd1, dd2, vd⟩ := two_ok (x := f) f0 f2
  rw [ea, eb, ec, ed]
  have hm := mark_ok r
  obtain ⟨K, hK⟩ : ∃ K, UInt8.ofNat (markOf r) = K := ⟨_, rfl⟩
  rw [hK] at hm ⊢
  show number r [a1, a2, 58, b1, b2, 58, c1, c2, K, d1, d2] = _
  have hf : formGo r 0 [a1, a2, 58, b1, b2, 58, c1, c2, K, d1, d2] = none := by
    simp [formGo, da1, da2, db1, db2, dc1, dc2, dd1, dd2, hm]
  have p0 : part [a1, a2, 58, b1, b2, 58, c1, c2, K, d1, d2] 0 = h := by simpa [part] using va
  have p3 : part [a1, a2, 58, b1, b2, 58, c1, c2, K, d1, d2] 3 = m := by simpa [part] using vb
  have p6 : part [a1, a2, 58, b1, b2, 58, c1, c2, K, d1, d2] 6 = s := by simpa [part] using vc
  have p9 : part [a1, a2, 58, b1, b2, 58, c1, c2, K, d1, d2] 9 = f := by simpa [part] using vd
  rw [number, hr, hf, p0, p3, p6, p9]
  simp only [Option.isSome_none, Bool.true_eq_false, Bool.false_eq_true, if_false]
  rw [if_neg (by omega), if_neg (by omega), if_neg (by omega), if_neg (by omega), if_neg hd]

theorem isRate_cases {r : Int} (h : isRate r = true) : r = 1 ∨ r = 2 ∨ r = 3 ∨ r = 4 ∨ r = 5 ∨ r = 6 ∨ r = 7 := by
  unfold isRate at h
  simp only [Bool.and_eq_true, decide_eq_true_eq] at h
  omega

/-- A rate that leaves no name out. -/
theorem nameOf_plain (r n c : Int) (hr : isRate r = true) (hc : rcount r = c) (hd : rdrop r = 0) (hcs : c = 24 ∨ c = 25 ∨ c = 30 ∨ c = 50 ∨ c = 60) (h0 : 0 ≤ n) (h1 : n < 86400 * c) : number r (nameOf r n) = some n := by
  have hdr : dropped r n = 0 := by simp only [dropped, hd, Int.mul_zero]
  have hb : 0 ≤ n / c ∧ n / c < 86400 ∧ 0 ≤ n % c ∧ n % c < c ∧ c * (n / c) + n % c = n := by
    rcases hcs with rfl | rfl | rfl | rfl | rfl <;> omega
  obtain ⟨b1, b2, b3, b4, b5⟩ := hb
  obtain ⟨S, hS⟩ : ∃ S, n / c = S := ⟨_, rfl⟩
  obtain ⟨F, hF⟩ : ∃ F, n % c = F := ⟨_, rfl⟩
  have e : nameOf r n = two (S / 3600) ++ [58] ++ two (S / 60 % 60) ++ [58] ++ two (S % 60) ++ [UInt8.ofNat (markOf r)] ++ two F := by
    rw [nameOf, hdr, hc, Int.add_zero, hS, hF]
  rw [hS, hF] at b5
  rw [hS] at b1 b2
  rw [hF] at b3 b4
  rw [e, number_parts r _ _ _ _ hr (by omega) (by omega) (by omega) (by omega) (by omega) (by omega) b3 (by omega) (by omega) (by rw [hd]; omega), hc, hd]
  have : 60 * (60 * (S / 3600) + S / 60 % 60) + S % 60 = S := by omega
  rw [this, Int.zero_mul, Int.sub_zero, b5]
theorem nameOf_four (n : Int) (h0 : 0 ≤ n) (h1 : n < 2589408) : number 4 (nameOf 4 n) = some n := by
  have ed : dropped 4 n = (9 * (n / 17982) + if 1800 ≤ n % 17982 then 1 + (n % 17982 - 1800) / 1798 else 0) * 2 := rfl
  obtain ⟨k, hk⟩ : ∃ k : Int, (if 1800 ≤ n % 17982 then 1 + (n % 17982 - 1800) / 1798 else 0) = k := ⟨_, rfl⟩
  have hk' : 0 ≤ k ∧ k ≤ 9 ∧ 1800 * k ≤ n % 17982 + 2 * k ∧ n % 17982 + 2 * k < 1800 * (k + 1) ∧ (k ≠ 0 → 1800 * k + 2 ≤ n % 17982 + 2 * k) := by
    rw [← hk]; split <;> omega
  rw [hk] at ed
  obtain ⟨Q, hQ⟩ : ∃ Q, n / 17982 = Q := ⟨_, rfl⟩
  have hn : n = 17982 * Q + n % 17982 := by omega
  obtain ⟨R, hR⟩ : ∃ R, n % 17982 = R := ⟨_, rfl⟩
  rw [hR] at hk' hn
  rw [hQ] at ed
  have hR' : 0 ≤ R ∧ R < 17982 := by omega
  have hQ' : 0 ≤ Q ∧ Q < 144 := by omega
  clear hk hR hQ
  have em : n + dropped 4 n = 18000 * Q + (R + 2 * k) := by rw [ed]; omega
  obtain ⟨T, hT⟩ : ∃ T, R + 2 * k = T := ⟨_, rfl⟩
  rw [hT] at em hk'
  obtain ⟨M, hM⟩ : ∃ M, n + dropped 4 n = M := ⟨_, rfl⟩
  rw [hM] at em
  have e : nameOf 4 n = two (M / 30 / 3600) ++ [58] ++ two (M / 30 / 60 % 60) ++ [58] ++ two (M / 30 % 60) ++ [UInt8.ofNat (markOf 4)] ++ two (M % 30) := by
    rw [nameOf, hM]; rfl
  have hmin : M / 30 / 60 = 10 * Q + k := by omega
  have hmin' : 60 * (M / 30 / 3600) + M / 30 / 60 % 60 = 10 * Q + k := by omega
  have hsec : 30 * (M / 30 % 60) + M % 30 = T - 1800 * k := by omega
  have h10 : M / 30 / 60 % 60 % 10 = k := by omega
  rw [e, number_parts 4 _ _ _ _ rfl (by omega) (by omega) (by omega) (by omega) (by omega) (by omega) (by omega) (show M % 30 < 30 by omega) (by omega)
    (by rw [h10]; show ¬ (k ≠ 0 ∧ M / 30 % 60 = 0 ∧ M % 30 < 2); omega), hmin']
  show some ((30 : Int) * (60 * (10 * Q + k) + M / 30 % 60) + M % 30 - 2 * (10 * Q + k - (10 * Q + k) / 10)) = some n
  congr 1
  omega
theorem nameOf_seven (n : Int) (h0 : 0 ≤ n) (h1 : n < 5178816) : number 7 (nameOf 7 n) = some n := by
  have ed : dropped 7 n = (9 * (n / 35964) + if 3600 ≤ n % 35964 then 1 + (n % 35964 - 3600) / 3596 else 0) * 4 := rfl
  obtain ⟨k, hk⟩ : ∃ k : Int, (if 3600 ≤ n % 35964 then 1 + (n % 35964 - 3600) / 3596 else 0) = k := ⟨_, rfl⟩
  have hk' : 0 ≤ k ∧ k ≤ 9 ∧ 3600 * k ≤ n % 35964 + 4 * k ∧ n % 35964 + 4 * k < 3600 * (k + 1) ∧ (k ≠ 0 → 3600 * k + 4 ≤ n % 35964 + 4 * k) := by
    rw [← hk]; split <;> omega
  rw [hk] at ed
  obtain ⟨Q, hQ⟩ : ∃ Q, n / 35964 = Q := ⟨_, rfl⟩
  have hn : n = 35964 * Q + n % 35964 := by omega
  obtain ⟨R, hR⟩ : ∃ R, n % 35964 = R := ⟨_, rfl⟩
  rw [hR] at hk' hn
  rw [hQ] at ed
  have hR' : 0 ≤ R ∧ R < 35964 := by omega
  have hQ' : 0 ≤ Q ∧ Q < 144 := by omega
  clear hk hR hQ
  have em : n + dropped 7 n = 36000 * Q + (R + 4 * k) := by rw [ed]; omega
  obtain ⟨T, hT⟩ : ∃ T, R + 4 * k = T := ⟨_, rfl⟩
  rw [hT] at em hk'
  obtain ⟨M, hM⟩ : ∃ M, n + dropped 7 n = M := ⟨_, rfl⟩
  rw [hM] at em
  have e : nameOf 7 n = two (M / 60 / 3600) ++ [58] ++ two (M / 60 / 60 % 60) ++ [58] ++ two (M / 60 % 60) ++ [UInt8.ofNat (markOf 7)] ++ two (M % 60) := by
    rw [nameOf, hM]; rfl
  have hmin : M / 60 / 60 = 10 * Q + k := by omega
  have hmin' : 60 * (M / 60 / 3600) + M / 60 / 60 % 60 = 10 * Q + k := by omega
  have hsec : 60 * (M / 60 % 60) + M % 60 = T - 3600 * k := by omega
  have h10 : M / 60 / 60 % 60 % 10 = k := by omega
  rw [e, number_parts 7 _ _ _ _ rfl (by omega) (by omega) (by omega) (by omega) (by omega) (by omega) (by omega) (show M % 60 < 60 by omega) (by omega)
    (by rw [h10]; show ¬ (k ≠ 0 ∧ M / 60 % 60 = 0 ∧ M % 60 < 4); omega), hmin']
  show some ((60 : Int) * (60 * (10 * Q + k) + M / 60 % 60) + M % 60 - 4 * (10 * Q + k - (10 * Q + k) / 10)) = some n
  congr 1
  omega
theorem number_nameOf (r n : Int) (hr : isRate r = true) (h0 : 0 ≤ n) (h1 : n < day r) : number r (nameOf r n) = some n := by
  rcases isRate_cases hr with rfl | rfl | rfl | rfl | rfl | rfl | rfl
  · exact nameOf_plain 1 n 24 hr rfl rfl (by omega) h0 (by have : day 1 = 86400 * 24 := rfl; omega)
  · exact nameOf_plain 2 n 25 hr rfl rfl (by omega) h0 (by have : day 2 = 86400 * 25 := rfl; omega)
  · exact nameOf_plain 3 n 30 hr rfl rfl (by omega) h0 (by have : day 3 = 86400 * 30 := rfl; omega)
  · exact nameOf_four n h0 (by have : day 4 = 2589408 := rfl; omega)
  · exact nameOf_plain 5 n 50 hr rfl rfl (by omega) h0 (by have : day 5 = 86400 * 50 := rfl; omega)
  · exact nameOf_plain 6 n 60 hr rfl rfl (by omega) h0 (by have : day 6 = 86400 * 60 := rfl; omega)
  · exact nameOf_seven n h0 (by have : day 7 = 5178816 := rfl; omega)
end Go.Proofs.Cuts
