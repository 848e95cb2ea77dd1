/-
  Where a line ends: plain law, no program in sight. No conditions.
-/
import Derived.Test.YtgimedhfhpiipaaGreatDoorParse
namespace Go.Proofs.Cuts

theorem indexByte_line : ∀ l : List UInt8, (Lib.indexByte l 10 = -1 ∧ lineLen l = l.length) ∨ (∃ n : Nat, Lib.indexByte l 10 = n ∧ lineLen l = n ∧ n < l.length)
  | [] => .inl ⟨rfl, rfl⟩
  | c :: t => by
    by_cases hc : (c == 10) = true
    · refine .inr ⟨0, ?_, ?_, by simp⟩
      · simp [Lib.indexByte, hc]
      · simp [lineLen, hc]
    · have hc' : (c == 10) = false := by simpa using hc
      have hl : lineLen (c :: t) = lineLen t + 1 := by simp [lineLen, hc']
      rcases indexByte_line t with ⟨h1, h2⟩ | ⟨n, h1, h2, h3⟩
      · exact .inl ⟨by simp [Lib.indexByte, hc', h1], by rw [hl, h2]; rfl⟩
      · refine .inr ⟨n + 1, ?_, by rw [hl, h2], by simp only [List.length_cons]; omega⟩
        have : ¬ ((n : Int) = -1) := by omega
        simp [Lib.indexByte, hc', h1, this]
end Go.Proofs.Cuts
