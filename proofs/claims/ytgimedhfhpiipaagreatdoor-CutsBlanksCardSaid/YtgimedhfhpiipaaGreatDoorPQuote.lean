/-
  The program's reading of a text, by runes, is the reading byte by byte: plain law, no program in sight. Conditions: the text is valid.
-/
import Derived.Test.YtgimedhfhpiipaaGreatDoorPUtf
namespace Go.Proofs.Cuts
open Go.Lib

theorem encodeRune_ascii (c : UInt8) (h : c.toNat < 128) : encodeRune (c.toNat : Int) = [c] := by
  unfold encodeRune
  rw [encodeRuneZ_one (by omega) (by omega)]
  simp
theorem quoteGo_nil (f k : Nat) (turned bad : Bool) (out : List UInt8) : (quoteGo f [] k turned bad out).2.1 = true := by
  cases f <;> simp [quoteGo]
theorem quoteGo_bad : ∀ (f : Nat) (l : List UInt8) (k : Nat) (turned : Bool) (out : List UInt8), (quoteGo f l k turned true out).2.1 = true
  | 0, _, _, _, _ => rfl
  | f + 1, l, k, turned, out => by
    rw [quoteGo]
    by_cases hl : l = []
    · rw [if_pos hl]
    · rw [if_neg hl]
      simp only
      repeat' split
      all_goals first | rfl | exact quoteGo_bad f _ _ _ _
/-- One byte below 128, not behind a sign. -/
theorem quoteGo_asc (f k : Nat) (c : UInt8) (t : List UInt8) (bad : Bool) (out : List UInt8) (hc : c.toNat < 128) :
    quoteGo (f + 1) (c :: t) k false bad out = if c = 92 then quoteGo f t (k + 1) true bad out else if c = 34 then (out, bad, k + 2) else quoteGo f t (k + 1) false bad (out ++ [c]) := by
  have e92 : (c.toNat = 92) = (c = 92) := by rw [← UInt8.toNat_inj]; rfl
  have e34 : (c.toNat = 34) = (c = 34) := by rw [← UInt8.toNat_inj]; rfl
  rw [quoteGo, if_neg (by simp), decodeL_ascii c t hc]
  simp only [Bool.false_eq_true, if_false, e92, e34, List.drop_succ_cons, List.drop_zero, encodeRune_ascii c hc]
theorem quoteGo_run (f k : Nat) (r t : List UInt8) (x : Nat) (bad : Bool) (out : List UInt8) (h2 : 2 ≤ r.length) (h3 : 128 ≤ x) (h4 : encodeRune (x : Int) = r) (h5 : ∀ u, decodeL (r ++ u) = (x, r.length)) :
    quoteGo (f + 1) (r ++ t) k false bad out = quoteGo f t (k + r.length) false bad (out ++ r) := by
  have hne : r ++ t ≠ [] := by intro e; rw [List.append_eq_nil_iff] at e; rw [e.1] at h2; simp at h2
  rw [quoteGo, if_neg hne, h5 t]
  have a : ¬ x = 92 := by omega
  have b : ¬ x = 34 := by omega
  simp only [Bool.false_eq_true, if_false, a, b, List.drop_left, h4]
/-- Behind a sign. -/
theorem quoteGo_turned (f k : Nat) (c : UInt8) (t : List UInt8) (bad : Bool) (out : List UInt8) (hc : c.toNat < 128) :
    quoteGo (f + 1) (c :: t) k true bad out = if c = 34 ∨ c = 92 then quoteGo f t (k + 1) false bad (out ++ [c]) else if c = 110 then quoteGo f t (k + 1) false bad (out ++ [10]) else quoteGo f t (k + 1) false true out := by
  have e92 : (c.toNat = 92) = (c = 92) := by rw [← UInt8.toNat_inj]; rfl
  have e34 : (c.toNat = 34) = (c = 34) := by rw [← UInt8.toNat_inj]; rfl
  have e110 : (c.toNat = 110) = (c = 110) := by rw [← UInt8.toNat_inj]; rfl
  rw [quoteGo, if_neg (by simp), decodeL_ascii c t hc]
  simp only [if_true, e92, e34, e110, List.drop_succ_cons, List.drop_zero, UInt8.ofNat_toNat]
theorem quoteGo_turned_run (f k : Nat) (r t : List UInt8) (x : Nat) (bad : Bool) (out : List UInt8) (h2 : 2 ≤ r.length) (h3 : 128 ≤ x) (h5 : ∀ u, decodeL (r ++ u) = (x, r.length)) :
    (quoteGo (f + 1) (r ++ t) k true bad out).2.1 = true := by
  have hne : r ++ t ≠ [] := by intro e; rw [List.append_eq_nil_iff] at e; rw [e.1] at h2; simp at h2
  rw [quoteGo, if_neg hne, h5 t]
  have a : ¬ (x = 34 ∨ x = 92) := by omega
  have b : ¬ x = 110 := by omega
  simp only [if_true, a, b, if_false]
  exact quoteGo_bad ..

theorem big_ne {b : UInt8} (h : 128 ≤ b.toNat) : b ≠ 34 ∧ b ≠ 92 := by
  refine ⟨fun e => ?_, fun e => ?_⟩ <;> subst e <;> revert h <;> decide

theorem quoteGo_tx : ∀ (n : Nat) (l : List UInt8), l.length ≤ n → Vt l → ∀ (f k : Nat) (bad : Bool) (out : List UInt8), l.length < f →
    (∀ m r, tx l = some (m, r) → quoteGo f l k false bad out = (out ++ m, bad, k + (l.length - r.length) + 1)) ∧ (tx l = none → (quoteGo f l k false bad out).2.1 = true) := by
  intro n
  induction n with
  | zero =>
    intro l hl _ f k bad out _
    obtain rfl : l = [] := List.eq_nil_of_length_eq_zero (by omega)
    refine ⟨fun m r h => ?_, fun _ => quoteGo_nil ..⟩
    rw [tx_nil] at h; cases h
  | succ n ih =>
    intro l hl hv f k bad out hf
    obtain ⟨f, rfl⟩ : ∃ g, f = g + 1 := ⟨f - 1, by omega⟩
    cases hv with
    | nil =>
      refine ⟨fun m r h => ?_, fun _ => quoteGo_nil ..⟩
      rw [tx_nil] at h; cases h
    | asc c t hc ht =>
      simp only [List.length_cons] at hl hf ⊢
      rw [quoteGo_asc f k c t bad out hc]
      by_cases h92 : c = 92
      · subst h92
        rw [if_pos rfl]
        cases ht with
        | nil => exact ⟨fun m r h => (by rw [tx_esc0] at h; cases h), fun _ => quoteGo_nil ..⟩
        | asc d u hd hu =>
          simp only [List.length_cons] at hl hf ⊢
          obtain ⟨f, rfl⟩ : ∃ g, f = g + 1 := ⟨f - 1, by omega⟩
          rw [quoteGo_turned f (k + 1) d u bad out hd]
          by_cases h1 : d = 34 ∨ d = 92
          · rw [if_pos h1, tx_esc u h1]
            obtain ⟨i1, i2⟩ := ih u (by omega) hu f (k + 1 + 1) bad (out ++ [d]) (by omega)
            refine ⟨fun m r h => ?_, fun h => i2 (by cases hh : tx u with | none => rfl | some p => rw [hh] at h; cases h)⟩
            obtain ⟨⟨m', r'⟩, hp, e⟩ := Option.map_eq_some_iff.1 h
            simp only [Prod.mk.injEq] at e; obtain ⟨rfl, rfl⟩ := e
            have := tx_len _ u m' _ (Nat.le_refl _) hp
            rw [i1 _ _ hp]
            simp only [List.append_assoc, List.cons_append, List.nil_append, Prod.mk.injEq, true_and]
            omega
          · rw [if_neg h1]
            by_cases h2 : d = 110
            · subst h2
              rw [if_pos rfl, tx_escn u]
              obtain ⟨i1, i2⟩ := ih u (by omega) hu f (k + 1 + 1) bad (out ++ [10]) (by omega)
              refine ⟨fun m r h => ?_, fun h => i2 (by cases hh : tx u with | none => rfl | some p => rw [hh] at h; cases h)⟩
              obtain ⟨⟨m', r'⟩, hp, e⟩ := Option.map_eq_some_iff.1 h
              simp only [Prod.mk.injEq] at e; obtain ⟨rfl, rfl⟩ := e
              have := tx_len _ u m' _ (Nat.le_refl _) hp
              rw [i1 _ _ hp]
              simp only [List.append_assoc, List.cons_append, List.nil_append, Prod.mk.injEq, true_and]
              omega
            · rw [if_neg h2, tx_escx u (fun e => h1 (.inl e)) (fun e => h1 (.inr e)) h2]
              exact ⟨fun m r h => (by cases h), fun _ => quoteGo_bad ..⟩
        | run r x u h1 h2 h3 h4 h5 hu =>
          obtain ⟨f, rfl⟩ : ∃ g, f = g + 1 := ⟨f - 1, by simp at hf; omega⟩
          match r, h1, h2, h5 with
          | d :: r', h1, h2, h5 =>
            refine ⟨fun m q h => ?_, fun _ => quoteGo_turned_run f (k + 1) (d :: r') u x bad out h2 h3 h5⟩
            rw [List.cons_append, tx_escx _ (big_ne (h1 d (by simp))).1 (big_ne (h1 d (by simp))).2 (by intro e; have := h1 d (by simp); subst e; revert this; decide)] at h
            cases h
      · rw [if_neg h92]
        by_cases h34 : c = 34
        · subst h34
          rw [if_pos rfl, tx_quote]
          refine ⟨fun m r h => ?_, fun h => by cases h⟩
          cases h
          simp only [List.append_nil, Prod.mk.injEq, true_and]
          omega
        · rw [if_neg h34, tx_plain t h34 h92]
          obtain ⟨i1, i2⟩ := ih t (by omega) ht f (k + 1) bad (out ++ [c]) (by omega)
          refine ⟨fun m r h => ?_, fun h => i2 (by cases hh : tx t with | none => rfl | some p => rw [hh] at h; cases h)⟩
          obtain ⟨⟨m', r'⟩, hp, e⟩ := Option.map_eq_some_iff.1 h
          simp only [Prod.mk.injEq] at e; obtain ⟨rfl, rfl⟩ := e
          have := tx_len _ t m' _ (Nat.le_refl _) hp
          rw [i1 _ _ hp]
          simp only [List.append_assoc, List.cons_append, List.nil_append, Prod.mk.injEq, true_and]
          omega
    | run r x t h1 h2 h3 h4 h5 ht =>
      simp only [List.length_append] at hl hf ⊢
      rw [quoteGo_run f k r t x bad out h2 h3 h4 h5, tx_run r t (fun b hb => big_ne (h1 b hb))]
      obtain ⟨i1, i2⟩ := ih t (by omega) ht f (k + r.length) bad (out ++ r) (by omega)
      refine ⟨fun m q h => ?_, fun h => i2 (by cases hh : tx t with | none => rfl | some p => rw [hh] at h; cases h)⟩
      obtain ⟨⟨m', r'⟩, hp, e⟩ := Option.map_eq_some_iff.1 h
      simp only [Prod.mk.injEq] at e; obtain ⟨rfl, rfl⟩ := e
      have := tx_len _ t m' _ (Nat.le_refl _) hp
      rw [i1 _ _ hp]
      simp only [List.append_assoc, Prod.mk.injEq, true_and]
      omega
theorem quoteR_some {l m r : List UInt8} (h : Vt l) (ht : tx l = some (m, r)) : quoteR l = (m, false, l.length - r.length + 1) := by
  rw [quoteR, (quoteGo_tx _ l (Nat.le_refl _) h _ 0 false [] (Nat.lt_succ_self _)).1 m r ht]
  simp
theorem quoteR_none {l : List UInt8} (h : Vt l) (ht : tx l = none) : (quoteR l).2.1 = true :=
  (quoteGo_tx _ l (Nat.le_refl _) h _ 0 false [] (Nat.lt_succ_self _)).2 ht
/-- What a text stands for is valid. -/
theorem tx_valid : ∀ (n : Nat) (l m r : List UInt8), l.length ≤ n → Vt l → tx l = some (m, r) → Vt m ∧ Vt r := by
  intro n
  induction n with
  | zero =>
    intro l m r hl _ h
    obtain rfl : l = [] := List.eq_nil_of_length_eq_zero (by omega)
    rw [tx_nil] at h; cases h
  | succ n ih =>
    intro l m r hl hv h
    cases hv with
    | nil => rw [tx_nil] at h; cases h
    | asc c t hc ht =>
      simp only [List.length_cons] at hl
      by_cases h34 : c = 34
      · subst h34; rw [tx_quote] at h; cases h; exact ⟨.nil, ht⟩
      · by_cases h92 : c = 92
        · subst h92
          cases t with
          | nil => rw [tx_esc0] at h; cases h
          | cons d u =>
            simp only [List.length_cons] at hl
            by_cases h1 : d = 34 ∨ d = 92
            · have hd : d.toNat < 128 := by rcases h1 with rfl | rfl <;> decide
              rw [tx_esc u h1] at h
              obtain ⟨⟨m', r'⟩, hp, e⟩ := Option.map_eq_some_iff.1 h
              simp only [Prod.mk.injEq] at e; obtain ⟨rfl, rfl⟩ := e
              obtain ⟨g1, g2⟩ := ih u m' _ (by omega) (ht.tail hd) hp
              exact ⟨.asc d m' hd g1, g2⟩
            · by_cases h2 : d = 110
              · subst h2
                rw [tx_escn u] at h
                obtain ⟨⟨m', r'⟩, hp, e⟩ := Option.map_eq_some_iff.1 h
                simp only [Prod.mk.injEq] at e; obtain ⟨rfl, rfl⟩ := e
                obtain ⟨g1, g2⟩ := ih u m' _ (by omega) (ht.tail (by decide)) hp
                exact ⟨.asc 10 m' (by decide) g1, g2⟩
              · rw [tx_escx u (fun e => h1 (.inl e)) (fun e => h1 (.inr e)) h2] at h; cases h
        · rw [tx_plain t h34 h92] at h
          obtain ⟨⟨m', r'⟩, hp, e⟩ := Option.map_eq_some_iff.1 h
          simp only [Prod.mk.injEq] at e; obtain ⟨rfl, rfl⟩ := e
          obtain ⟨g1, g2⟩ := ih t m' _ (by omega) ht hp
          exact ⟨.asc c m' hc g1, g2⟩
    | run q x t h1 h2 h3 h4 h5 ht =>
      simp only [List.length_append] at hl
      rw [tx_run q t (fun b hb => big_ne (h1 b hb))] at h
      obtain ⟨⟨m', r'⟩, hp, e⟩ := Option.map_eq_some_iff.1 h
      simp only [Prod.mk.injEq] at e; obtain ⟨rfl, rfl⟩ := e
      obtain ⟨g1, g2⟩ := ih t m' _ (by omega) ht hp
      exact ⟨.run q x m' h1 h2 h3 h4 h5 g1, g2⟩
end Go.Proofs.Cuts
