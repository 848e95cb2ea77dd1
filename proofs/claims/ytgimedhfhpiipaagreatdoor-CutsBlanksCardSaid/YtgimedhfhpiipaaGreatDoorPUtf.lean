/-
  Plain laws of valid text, byte by byte: no program in sight. No conditions.
-/
import Derived.Test.YtgimedhfhpiipaaGreatDoorSpec
namespace Go.Proofs.Cuts
open Go.Lib

/-- Valid text: bytes below 128, and runs of two bytes or more, all from 128 on, that make one rune. -/
inductive Vt : List UInt8 → Prop
  | nil : Vt []
  | asc (c : UInt8) (t : List UInt8) : c.toNat < 128 → Vt t → Vt (c :: t)
  | run (r : List UInt8) (x : Nat) (t : List UInt8) : (∀ b ∈ r, 128 ≤ b.toNat) → 2 ≤ r.length → 128 ≤ x → encodeRune (x : Int) = r → (∀ u, decodeL (r ++ u) = (x, r.length)) → Vt t → Vt (r ++ t)

theorem decodeL_two (b0 b1 : UInt8) (u : List UInt8) : decodeL (b0 :: b1 :: u) = decodeN (u.length + 2) b0.toNat b1.toNat (u.getD 0 0).toNat (u.getD 1 0).toNat := by
  rw [decodeL_N]
  simp [List.getD]
theorem decodeL_three (b0 b1 b2 : UInt8) (u : List UInt8) : decodeL (b0 :: b1 :: b2 :: u) = decodeN (u.length + 3) b0.toNat b1.toNat b2.toNat (u.getD 0 0).toNat := by
  rw [decodeL_N]
  simp [List.getD]
theorem decodeL_four (b0 b1 b2 b3 : UInt8) (u : List UInt8) : decodeL (b0 :: b1 :: b2 :: b3 :: u) = decodeN (u.length + 4) b0.toNat b1.toNat b2.toNat b3.toNat := by
  rw [decodeL_N]
  simp [List.getD]

theorem cons_two {l : List UInt8} (h : 1 < l.length) : ∃ b0 b1 t, l = b0 :: b1 :: t := by
  rcases l with _ | ⟨b0, _ | ⟨b1, t⟩⟩
  · simp at h
  · simp at h
  · exact ⟨b0, b1, t, rfl⟩
theorem cons_three {l : List UInt8} (h : 2 < l.length) : ∃ b0 b1 b2 t, l = b0 :: b1 :: b2 :: t := by
  obtain ⟨b0, b1, t, rfl⟩ := cons_two (by omega : 1 < l.length)
  rcases t with _ | ⟨b2, t⟩
  · simp at h
  · exact ⟨b0, b1, b2, t, rfl⟩
theorem cons_four {l : List UInt8} (h : 3 < l.length) : ∃ b0 b1 b2 b3 t, l = b0 :: b1 :: b2 :: b3 :: t := by
  obtain ⟨b0, b1, b2, t, rfl⟩ := cons_three (by omega : 2 < l.length)
  rcases t with _ | ⟨b3, t⟩
  · simp at h
  · exact ⟨b0, b1, b2, b3, t, rfl⟩

theorem rune_shape (l : List UInt8) (hne : l ≠ []) (hv : ¬ ((decodeL l).1 = 65533 ∧ (decodeL l).2 = 1)) (h0 : 128 ≤ (l.getD 0 0).toNat) :
    ∃ r x t, l = r ++ t ∧ (∀ b ∈ r, 128 ≤ b.toNat) ∧ 2 ≤ r.length ∧ 128 ≤ x ∧ encodeRune ((x : Nat) : Int) = r ∧ (∀ u, decodeL (r ++ u) = (x, r.length)) ∧ decodeL l = (x, r.length) := by
  have he := encode_decode l hne hv
  have hs := decodeN_shape l.length (l.getD 0 0).toNat (l.getD 1 0).toNat (l.getD 2 0).toNat (l.getD 3 0).toNat
  rw [← decodeL_N] at hs
  rcases hs with ⟨c, e⟩ | ⟨c1, c2, c3, cv, e⟩ | ⟨c1, c2, c3, c4, cv, cs, e⟩ | ⟨c1, c2, c3, c4, c5, cv, cw, e⟩ | e
  · omega
  · rw [e] at he
    obtain ⟨b0, b1, t, rfl⟩ := cons_two c2
    · simp only [List.getD_cons_zero, List.getD_cons_succ] at *
      refine ⟨[b0, b1], _, t, rfl, ?_, by simp, cv, he, fun u => ?_, e⟩
      · intro b hb
        simp only [List.mem_cons, List.not_mem_nil, or_false] at hb
        rcases hb with rfl | rfl
        · exact h0
        · omega
      · rw [show [b0, b1] ++ u = b0 :: b1 :: u from rfl, decodeL_two, decodeN, if_neg (by omega), if_pos ⟨c1, by omega, c3⟩, if_pos cv]
        rfl
  · rw [e] at he
    obtain ⟨b0, b1, b2, t, rfl⟩ := cons_three c2
    · simp only [List.getD_cons_zero, List.getD_cons_succ] at *
      refine ⟨[b0, b1, b2], _, t, rfl, ?_, by simp, by omega, he, fun u => ?_, e⟩
      · intro b hb
        simp only [List.mem_cons, List.not_mem_nil, or_false] at hb
        rcases hb with rfl | rfl | rfl
        · exact h0
        · omega
        · omega
      · rw [show [b0, b1, b2] ++ u = b0 :: b1 :: b2 :: u from rfl, decodeL_three, decodeN, if_neg (by omega), if_neg (by omega), if_pos ⟨c1, ⟨by omega, c3⟩, by omega, c4⟩, if_pos ⟨cv, by omega⟩]
        rfl
  · rw [e] at he
    obtain ⟨b0, b1, b2, b3, t, rfl⟩ := cons_four c2
    · simp only [List.getD_cons_zero, List.getD_cons_succ] at *
      refine ⟨[b0, b1, b2, b3], _, t, rfl, ?_, by simp, by omega, he, fun u => ?_, e⟩
      · intro b hb
        simp only [List.mem_cons, List.not_mem_nil, or_false] at hb
        rcases hb with rfl | rfl | rfl | rfl
        · exact h0
        · omega
        · omega
        · omega
      · rw [show [b0, b1, b2, b3] ++ u = b0 :: b1 :: b2 :: b3 :: u from rfl, decodeL_four, decodeN, if_neg (by omega), if_neg (by omega), if_neg (by omega), if_pos ⟨c1, ⟨by omega, c3⟩, ⟨by omega, c4⟩, by omega, c5⟩, if_pos ⟨cv, by omega⟩]
        rfl
  · exact absurd (by rw [e]; exact ⟨rfl, rfl⟩) hv

theorem vt_of_valid : ∀ (n : Nat) (l : List UInt8), l.length ≤ n → validD l = true → Vt l
  | 0, l, h, _ => by
    obtain rfl : l = [] := List.eq_nil_of_length_eq_zero (by omega)
    exact .nil
  | n + 1, [], _, _ => .nil
  | n + 1, c :: t, h, hv => by
    by_cases hc : c.toNat < 128
    · rw [validD_cons c t hc] at hv
      exact .asc c t hc (vt_of_valid n t (by simp at h; omega) hv)
    · rw [validD_step _ (by simp)] at hv
      by_cases hb : (decodeL (c :: t)).1 = 65533 ∧ (decodeL (c :: t)).2 = 1
      · rw [if_pos hb] at hv; cases hv
      · rw [if_neg hb] at hv
        obtain ⟨r, x, u, e, h1, h2, h3, h4, h5, h6⟩ := rune_shape (c :: t) (by simp) hb (by simp; omega)
        rw [e]
        rw [h6, e] at hv
        simp only [List.drop_left] at hv
        refine .run r x u h1 h2 h3 h4 h5 (vt_of_valid n u ?_ hv)
        have := congrArg List.length e
        simp at this h
        omega
theorem valid_of_vt {l : List UInt8} (h : Vt l) : validD l = true := by
  induction h with
  | nil => exact validD_nil
  | asc c t hc _ ih => rw [validD_cons c t hc]; exact ih
  | run r x t h1 h2 h3 h4 h5 _ ih =>
    rw [validD_step _ (by intro e; rw [List.append_eq_nil_iff] at e; rw [e.1] at h2; simp at h2), h5 t, if_neg (by simp; omega)]
    simpa using ih
theorem valid_iff {l : List UInt8} : validD l = true ↔ Vt l := ⟨vt_of_valid l.length l (Nat.le_refl _), valid_of_vt⟩

theorem Vt.append {a b : List UInt8} (ha : Vt a) (hb : Vt b) : Vt (a ++ b) := by
  induction ha with
  | nil => exact hb
  | asc c t hc _ ih => exact .asc c _ hc ih
  | run r x t h1 h2 h3 h4 h5 _ ih => rw [List.append_assoc]; exact .run r x _ h1 h2 h3 h4 h5 ih
theorem Vt.ascii : ∀ {l : List UInt8}, (∀ c ∈ l, c.toNat < 128) → Vt l
  | [], _ => .nil
  | c :: t, h => .asc c t (h c (by simp)) (Vt.ascii (fun d hd => h d (by simp [hd])))
/-- At a byte below 128 valid text parts. -/
theorem Vt.part {l : List UInt8} (h : Vt l) : ∀ {a b : List UInt8} {c : UInt8}, c.toNat < 128 → l = a ++ c :: b → Vt a ∧ Vt b := by
  induction h with
  | nil => intro a b c _ e; simp at e
  | asc d t hd ht ih =>
    intro a b c hc e
    cases a with
    | nil => simp only [List.nil_append, List.cons.injEq] at e; obtain ⟨_, rfl⟩ := e; exact ⟨.nil, ht⟩
    | cons x a =>
      simp only [List.cons_append, List.cons.injEq] at e
      obtain ⟨rfl, e⟩ := e
      obtain ⟨h1, h2⟩ := ih hc e
      exact ⟨.asc d a hd h1, h2⟩
  | run r x t h1 h2 h3 h4 h5 ht ih =>
    intro a b c hc e
    rcases List.append_eq_append_iff.1 e with ⟨a', rfl, h'⟩ | ⟨r', hr', h'⟩
    · obtain ⟨g1, g2⟩ := ih hc h'
      exact ⟨.run r x a' h1 h2 h3 h4 h5 g1, g2⟩
    · cases r' with
      | nil =>
        simp only [List.append_nil] at hr'
        simp only [List.nil_append] at h'
        subst hr'
        obtain ⟨g1, g2⟩ := ih (a := []) hc h'.symm
        rw [← List.append_nil r]
        exact ⟨.run r x [] h1 h2 h3 h4 h5 .nil, g2⟩
      | cons y r' =>
        simp only [List.cons_append, List.cons.injEq] at h'
        have := h1 y (by rw [hr']; simp)
        rw [← h'.1] at this
        omega
theorem Vt.tail {c : UInt8} {t : List UInt8} (h : Vt (c :: t)) (hc : c.toNat < 128) : Vt t := (h.part (a := []) hc rfl).2

/-! ### unruly is valid -/
theorem unrulyGo_none : ∀ (f : Nat) (l : List UInt8) (k : Nat), l.length < f → (unrulyGo f l k = none ↔ validD l = true)
  | 0, l, k, h => by omega
  | f + 1, l, k, h => by
    rw [unrulyGo]
    by_cases hl : l = []
    · subst hl; simp [validD_nil]
    · rw [if_neg hl, validD_step l hl]
      by_cases hb : (decodeL l).1 = 65533 ∧ (decodeL l).2 = 1
      · rw [if_pos hb, if_pos hb]; simp
      · rw [if_neg hb, if_neg hb]
        have := decodeL_width l
        have : 0 < l.length := List.length_pos_iff.2 hl
        exact unrulyGo_none f _ _ (by rw [List.length_drop]; omega)
theorem unruly_none (l : List UInt8) : unruly l = none ↔ Vt l := (unrulyGo_none _ l 0 (Nat.lt_succ_self _)).trans valid_iff

/-! ### a text, byte by byte -/
/-- What stands between a text's quotes, and what stands behind it; none: it is none that may be. -/
def tx : List UInt8 → Option (List UInt8 × List UInt8)
  | [] => none
  | c :: t =>
    if c = 34 then some ([], t)
    else if c = 92 then
      match t with
      | [] => none
      | d :: u => if d = 34 ∨ d = 92 then (tx u).map fun p => (d :: p.1, p.2) else if d = 110 then (tx u).map fun p => (10 :: p.1, p.2) else none
    else (tx t).map fun p => (c :: p.1, p.2)
theorem tx_nil : tx [] = none := by rw [tx]
theorem tx_quote (t : List UInt8) : tx (34 :: t) = some ([], t) := by rw [tx.eq_def]; simp
theorem tx_plain {c : UInt8} (t : List UInt8) (h1 : c ≠ 34) (h2 : c ≠ 92) : tx (c :: t) = (tx t).map fun p => (c :: p.1, p.2) := by
  rw [tx.eq_def]; simp [h1, h2]
theorem tx_esc0 : tx [92] = none := by rw [tx.eq_def]; simp
theorem tx_esc {d : UInt8} (u : List UInt8) (h : d = 34 ∨ d = 92) : tx (92 :: d :: u) = (tx u).map fun p => (d :: p.1, p.2) := by
  rw [tx.eq_def]; simp [h]
theorem tx_escn (u : List UInt8) : tx (92 :: 110 :: u) = (tx u).map fun p => (10 :: p.1, p.2) := by
  rw [tx.eq_def]; simp
theorem tx_escx {d : UInt8} (u : List UInt8) (h1 : d ≠ 34) (h2 : d ≠ 92) (h3 : d ≠ 110) : tx (92 :: d :: u) = none := by
  rw [tx.eq_def]; simp [h1, h2, h3]
theorem tx_len : ∀ (n : Nat) (l m r : List UInt8), l.length ≤ n → tx l = some (m, r) → r.length < l.length
  | 0, l, m, r, h, ht => by
    obtain rfl : l = [] := List.eq_nil_of_length_eq_zero (by omega)
    rw [tx_nil] at ht; cases ht
  | n + 1, [], m, r, h, ht => by rw [tx_nil] at ht; cases ht
  | n + 1, c :: t, m, r, h, ht => by
    simp only [List.length_cons] at h ⊢
    by_cases h1 : c = 34
    · subst h1; rw [tx_quote] at ht; cases ht; omega
    · by_cases h2 : c = 92
      · subst h2
        cases t with
        | nil => rw [tx_esc0] at ht; cases ht
        | cons d u =>
          simp only [List.length_cons] at h ⊢
          by_cases hd : d = 34 ∨ d = 92
          · rw [tx_esc u hd] at ht
            obtain ⟨⟨m', r'⟩, hp, e⟩ := Option.map_eq_some_iff.1 ht
            simp only [Prod.mk.injEq] at e; obtain ⟨rfl, rfl⟩ := e
            have := tx_len n u m' _ (by omega) hp
            omega
          · by_cases hn : d = 110
            · subst hn
              rw [tx_escn] at ht
              obtain ⟨⟨m', r'⟩, hp, e⟩ := Option.map_eq_some_iff.1 ht
              simp only [Prod.mk.injEq] at e; obtain ⟨rfl, rfl⟩ := e
              have := tx_len n u m' _ (by omega) hp
              omega
            · rw [tx_escx u (fun e => hd (.inl e)) (fun e => hd (.inr e)) hn] at ht; cases ht
      · rw [tx_plain t h1 h2] at ht
        obtain ⟨⟨m', r'⟩, hp, e⟩ := Option.map_eq_some_iff.1 ht
        simp only [Prod.mk.injEq] at e; obtain ⟨rfl, rfl⟩ := e
        have := tx_len n t m' _ (by omega) hp
        omega
/-- A run of bytes that are neither quote nor sign. -/
theorem tx_run : ∀ (r t : List UInt8), (∀ b ∈ r, b ≠ 34 ∧ b ≠ 92) → tx (r ++ t) = (tx t).map fun p => (r ++ p.1, p.2)
  | [], t, _ => by simp
  | c :: r, t, h => by
    rw [List.cons_append, tx_plain _ (h c (by simp)).1 (h c (by simp)).2, tx_run r t (fun b hb => h b (by simp [hb]))]
    cases tx t <;> simp
end Go.Proofs.Cuts
