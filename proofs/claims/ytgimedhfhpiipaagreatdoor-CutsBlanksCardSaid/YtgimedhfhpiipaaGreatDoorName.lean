/-
  cuts.isName returns whether a text is a name. Condition: the text's length fits an int.
-/
import Derived.Test.YtgimedhfhpiipaaGreatDoorBase
namespace Go.Proofs.Cuts
open Go.RowKit

theorem nameByte_iff (c : UInt8) : nameByte c = true ↔ (97 ≤ c.toNat ∧ c.toNat ≤ 122) ∨ (48 ≤ c.toNat ∧ c.toNat ≤ 57) ∨ c.toNat = 95 ∨ c.toNat = 45 := by
  simp [nameByte, or_assoc]
theorem bl_length (s : ByteArray) : (bl s).length = s.size := by simp [bl]
theorem bl_get (s : ByteArray) (k : Nat) (h : k < s.size) : (bl s)[k]'(by rw [bl_length]; exact h) = s[k] := by simp [bl]; rfl
theorem all_of {s : ByteArray} (h : ∀ j (hj : j < s.size), nameByte s[j] = true) : (bl s).all nameByte = true := by
  rw [List.all_eq_true]
  intro x hx
  obtain ⟨j, hj, rfl⟩ := List.getElem_of_mem hx
  have hj' : j < s.size := by rw [bl_length] at hj; exact hj
  rw [bl_get s j hj']
  exact h j hj'
theorem not_all {s : ByteArray} (j : Nat) (hj : j < s.size) (h : nameByte s[j] = false) : (bl s).all nameByte = false := by
  rw [List.all_eq_false]
  refine ⟨s[j], ?_, by simp [h]⟩
  rw [← bl_get s j hj]
  exact List.getElem_mem _

set_option maxHeartbeats 1000000 in
theorem isName_any (s : ByteArray) (w : World) (hs : s.size ≤ maxLen) :
    Calls Tryz.prog 67 #[.string s] w fun e w' => e = .returned (.bool (nameOk (bl s))) ∧ w' = w := by
  unfold maxLen at hs
  go_enter Tryz.func67, Tryz.ntmps67
  go_wp2
  go_loopg [7] s.size (fun g v wx => wx = w ∧ ∃ k : Nat, k + g = s.size ∧ v = .int .i64 k ∧ ∀ j (hj : j < s.size), j < k → nameByte s[j] = true)
  case atStart => exact ⟨rfl, 0, by omega, rfl, fun j _ h => absurd h (by omega)⟩
  case round =>
    obtain ⟨rfl, k, hk, rfl, hall⟩ := hrel
    have HA := Lib.hid hall
    clear hall
    by_cases hlt : k < s.size
    · cases hnb : nameByte (s[k]'hlt) with
      | true =>
        have h4 := (nameByte_iff _).1 hnb
        have Hn := Lib.hid hnb
        clear hnb
        obtain ⟨c, hc⟩ : ∃ c : Nat, (s[k]'hlt).toNat = c := ⟨_, rfl⟩
        rw [hc] at h4
        rcases h4 with h | h | rfl | rfl
        all_goals
          go_wp2 <;>
          (go_roundg (gk - 1)
           case measure => omega
           case rel =>
             refine ⟨rfl, k + 1, by omega, by go_num, fun j hj hjk => ?_⟩
             by_cases e : j = k
             · subst e; exact Hn.out
             · exact HA.out j hj (by omega))
      | false =>
        have h4 : ¬ _ := fun h => by have := (nameByte_iff (s[k]'hlt)).2 h; rw [hnb] at this; cases this
        have Hn := Lib.hid hnb
        clear hnb
        obtain ⟨c, hc⟩ : ∃ c : Nat, (s[k]'hlt).toNat = c := ⟨_, rfl⟩
        rw [hc] at h4
        have fin : nameOk (bl s) = false := by unfold nameOk; rw [not_all k hlt Hn.out]; rfl
        have Hf := Lib.hid fin
        clear fin
        have h5 : c < 45 ∨ (45 < c ∧ c < 48) ∨ (57 < c ∧ c < 95) ∨ (95 < c ∧ c < 97) ∨ 122 < c := by omega
        clear h4
        rcases h5 with h | h | h | h | h
        all_goals
          have n1 : ((c : Int) != 95) = true := by rw [bne_iff_ne]; omega
          have n2 : ((c : Int) != 45) = true := by rw [bne_iff_ne]; omega
          go_wp2 <;> (go_ret; exact ⟨by rw [Hf.out]; rfl, rfl⟩)
    · have fin : nameOk (bl s) = (decide (1 ≤ s.size) && decide (s.size ≤ 16)) := by
        unfold nameOk
        rw [all_of (fun j hj => HA.out j hj (by omega)), bl_length]
        rfl
      have Hf := Lib.hid fin
      clear fin
      have e16 : decide ((s.size : Int) ≤ 16) = decide (s.size ≤ 16) := by rw [decide_eq_decide]; omega
      have E16 := Lib.hid e16
      clear e16
      by_cases h1 : 1 ≤ s.size
      · have d1 : decide (1 ≤ s.size) = true := decide_eq_true h1
        have D1 := Lib.hid d1
        clear d1
        go_wp2
        go_ret
        refine ⟨?_, rfl⟩
        rw [Hf.out, D1.out, ← E16.out]
        rfl
      · have d1 : decide (1 ≤ s.size) = false := decide_eq_false h1
        have D1 := Lib.hid d1
        clear d1
        go_wp2
        go_ret
        refine ⟨?_, rfl⟩
        rw [Hf.out, D1.out]
        rfl
end Go.Proofs.Cuts
