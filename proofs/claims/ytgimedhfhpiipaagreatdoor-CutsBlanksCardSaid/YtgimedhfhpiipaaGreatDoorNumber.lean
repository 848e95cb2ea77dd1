/-
  timecode.Number: the number of a name, or a fault. Conditions: the listed variables lie in the world; the text has at most 20000 bytes.
-/
import Derived.Test.YtgimedhfhpiipaaGreatDoorForm
import Derived.Test.YtgimedhfhpiipaaGreatDoorCheck2
namespace Go.Proofs.Cuts
open Go.RowKit

theorem formGo_none (r : Int) : ∀ (l : List UInt8) (k : Nat), k ≤ 11 → formGo r k l = none →
    l.length + k = 11 ∧ ∀ j (hj : j < l.length), (k + j ≠ 8 → (k + j) % 3 ≠ 2 → dig l[j] = true)
  | [], k, hk, h => by
    rw [formGo] at h
    split at h
    · cases h
    · exact ⟨by simp; omega, fun j hj => absurd hj (by simp)⟩
  | c :: t, k, hk, h => by
    rw [formGo_step] at h
    by_cases h11 : k = 11
    · rw [if_pos h11] at h; cases h
    rw [if_neg h11] at h
    have key : formGo r (k + 1) t = none ∧ (k ≠ 8 → k % 3 ≠ 2 → dig c = true) := by
      by_cases h8 : k = 8
      · rw [if_pos h8] at h
        split at h
        · exact ⟨h, fun x => absurd h8 x⟩
        · cases h
      · rw [if_neg h8] at h
        by_cases hm : k % 3 = 2
        · rw [if_pos hm] at h
          split at h
          · exact ⟨h, fun _ x => absurd hm x⟩
          · cases h
        · rw [if_neg hm] at h
          split at h
          · rename_i hd; exact ⟨h, fun _ _ => hd⟩
          · cases h
    obtain ⟨hl, ih⟩ := formGo_none r t (k + 1) (by omega) key.1
    refine ⟨by simp only [List.length_cons]; omega, fun j hj => ?_⟩
    cases j with
    | zero => exact key.2
    | succ j =>
      have := ih j (by simpa using hj)
      rw [show k + 1 + j = k + (j + 1) by omega] at this
      simpa using this

theorem part_any (b : Nat) (s : ByteArray) (a : Nat) (w : World) (hs : w.heap[b]? = some (.cells #[.string s] 9 (0, 0))) (ha : a + 1 < s.size) (ha2 : a ≤ 20000) (h0 : 48 ≤ (s[a]'(by omega)).toNat ∧ (s[a]'(by omega)).toNat ≤ 57) (h1 : 48 ≤ (s[a + 1]'ha).toNat ∧ (s[a + 1]'ha).toNat ≤ 57) :
    Calls Tryz.prog 133 #[.int .i64 a, .pointer (some ⟨b, 0, none⟩)] w fun e w' => e = .returned (.int .i64 (10 * (((s[a]'(by omega)).toNat : Int) - 48) + (((s[a + 1]'ha).toNat : Int) - 48))) ∧ ∃ n, w' = w.drewN n := by
  have hc := cell_of_one hs
  clear hs
  obtain ⟨x, hx⟩ : ∃ x : Nat, (s[a]'(by omega)).toNat = x := ⟨_, rfl⟩
  obtain ⟨y, hy⟩ : ∃ y : Nat, (s[a + 1]'ha).toNat = y := ⟨_, rfl⟩
  rw [hx, hy]
  rw [hx] at h0
  rw [hy] at h1
  have e1 : IntKind.i64.wrap ((a : Int) + 1) = (a : Int) + 1 := IntWalk.i64_in _ (by omega)
  have e2 : (0 : Int) ≤ (a : Int) + 1 := by omega
  have e3 : ((a : Int) + 1).toNat = a + 1 := by omega
  have e4 : (a : Int) + 1 < (s.size : Int) := by omega
  have e5 : IntKind.u8.wrap ((x : Int) - 48) = (x : Int) - 48 := IntWalk.u8_in _ (by omega)
  have e6 : IntKind.u8.wrap ((y : Int) - 48) = (y : Int) - 48 := IntWalk.u8_in _ (by omega)
  have e7 : IntKind.i64.wrap ((x : Int) - 48) = (x : Int) - 48 := IntWalk.i64_in _ (by omega)
  have e8 : IntKind.i64.wrap ((y : Int) - 48) = (y : Int) - 48 := IntWalk.i64_in _ (by omega)
  have e9 : IntKind.i64.wrap (10 * ((x : Int) - 48)) = 10 * ((x : Int) - 48) := IntWalk.i64_in _ (by omega)
  have e10 : IntKind.i64.wrap (10 * ((x : Int) - 48) + ((y : Int) - 48)) = 10 * ((x : Int) - 48) + ((y : Int) - 48) := IntWalk.i64_in _ (by omega)
  have e0 : (a : Int) < (s.size : Int) := by omega
  go_enter Tryz.func133, Tryz.ntmps133
  go_wp2
  go_quiet (fail)
  clear e1 e2 e3 e4 e5 e6 e7 e8 e9 e10 e0
  go_wp2
  go_ret
  exact ⟨rfl, _, rfl⟩
end Go.Proofs.Cuts
