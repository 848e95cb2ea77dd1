/-
  The words of a line that is laid out of words, blanks and a remark: plain law, no program in sight. Conditions: the texts are valid.
-/
import Derived.Test.YtgimedhfhpiipaaGreatDoorPQuote
import Derived.Test.YtgimedhfhpiipaaGreatDoorPTime
namespace Go.Proofs.Cuts
open Go.Lib

theorem quoteGo_pos : ∀ (f : Nat) (l : List UInt8) (k : Nat) (turned bad : Bool) (out : List UInt8), 1 ≤ (quoteGo f l k turned bad out).2.2
  | 0, _, k, _, _, _ => by show 1 ≤ k + 1; omega
  | f + 1, l, k, turned, bad, out => by
    rw [quoteGo]
    by_cases hl : l = []
    · rw [if_pos hl]; show 1 ≤ k + 1; omega
    · rw [if_neg hl]
      simp only
      repeat' split
      all_goals first | exact quoteGo_pos f _ _ _ _ _ | (show 1 ≤ k + 2; omega)
theorem quoteR_pos (l : List UInt8) : 1 ≤ (quoteR l).2.2 := quoteGo_pos ..
theorem plainLen_pos (c : UInt8) (t : List UInt8) (h : ¬ (c = 32 ∨ c = 9)) : 1 ≤ plainLen (c :: t) := by
  have : (!(c == 32 || c == 9)) = true := by
    simp only [Bool.not_eq_true', Bool.or_eq_false_iff, beq_eq_false_iff_ne]
    exact ⟨fun e => h (.inl e), fun e => h (.inr e)⟩
  simp only [plainLen, List.takeWhile_cons, this, if_true, List.length_cons]
  omega
theorem wordsGo_fuel : ∀ (f g : Nat) (l : List UInt8) (p : Nat), l.length < f → l.length < g → wordsGo f l p = wordsGo g l p
  | 0, _, l, p, h, _ => by omega
  | _ + 1, 0, l, p, _, h => by omega
  | f + 1, g + 1, [], p, _, _ => rfl
  | f + 1, g + 1, c :: t, p, hf, hg => by
    simp only [List.length_cons] at hf hg
    simp only [wordsGo]
    by_cases hb : c = 32 ∨ c = 9
    · rw [if_pos hb, if_pos hb]; exact wordsGo_fuel f g t _ (by omega) (by omega)
    · rw [if_neg hb, if_neg hb]
      by_cases hh : c = 35
      · rw [if_pos hh, if_pos hh]
      · rw [if_neg hh, if_neg hh]
        have hq := quoteR_pos t
        have hp := plainLen_pos c t hb
        by_cases hq' : c = 34
        · rw [if_pos hq', if_pos hq', wordsGo_fuel f g ((c :: t).drop (quoteR t).2.2) _ (by rw [List.length_drop, List.length_cons]; omega) (by rw [List.length_drop, List.length_cons]; omega)]
        · rw [if_neg hq', if_neg hq', wordsGo_fuel f g ((c :: t).drop (plainLen (c :: t))) _ (by rw [List.length_drop, List.length_cons]; omega) (by rw [List.length_drop, List.length_cons]; omega)]
theorem words_nil (p : Nat) : words [] p = ([], p) := rfl
theorem words_blank {c : UInt8} (t : List UInt8) (p : Nat) (h : c = 32 ∨ c = 9) : words (c :: t) p = words t (p + 1) := by
  rw [words, wordsGo, if_pos h]
  exact wordsGo_fuel _ _ t _ (by simp) (by simp)
theorem words_hash (t : List UInt8) (p : Nat) : words (35 :: t) p = ([], p) := by
  rw [words, wordsGo, if_neg (by decide), if_pos rfl]
theorem words_quote (t : List UInt8) (p : Nat) : words (34 :: t) p = (⟨p, ba (quoteR t).1, true, (quoteR t).2.1⟩ :: (words ((34 :: t).drop (quoteR t).2.2) (p + (quoteR t).2.2)).1, (words ((34 :: t).drop (quoteR t).2.2) (p + (quoteR t).2.2)).2) := by
  have hq := quoteR_pos t
  rw [words, wordsGo, if_neg (by decide), if_neg (by decide), if_pos rfl]
  simp only
  rw [wordsGo_fuel _ (((34 :: t).drop (quoteR t).2.2).length + 1) _ _ (by rw [List.length_drop, List.length_cons]; omega) (by omega)]
  rfl
theorem words_plain (c : UInt8) (t : List UInt8) (p : Nat) (h1 : ¬ (c = 32 ∨ c = 9)) (h2 : c ≠ 35) (h3 : c ≠ 34) : words (c :: t) p = (⟨p, ba ((c :: t).take (plainLen (c :: t))), false, false⟩ :: (words ((c :: t).drop (plainLen (c :: t))) (p + plainLen (c :: t))).1, (words ((c :: t).drop (plainLen (c :: t))) (p + plainLen (c :: t))).2) := by
  have hp := plainLen_pos c t h1
  rw [words, wordsGo, if_neg h1, if_neg h2, if_neg h3]
  simp only
  rw [wordsGo_fuel _ (((c :: t).drop (plainLen (c :: t))).length + 1) _ _ (by rw [List.length_drop, List.length_cons]; omega) (by omega)]
  rfl

/-! ### what a line is laid of -/
/-- A text between its quotes, as it is written. -/
def esc : List UInt8 → List UInt8
  | [] => []
  | c :: t => if c = 34 ∨ c = 92 then 92 :: c :: esc t else if c = 10 then 92 :: 110 :: esc t else c :: esc t
inductive It
  | pl (l : List UInt8)
  | txt (m : List UInt8)
def It.text : It → List UInt8
  | .pl l => l
  | .txt m => 34 :: (esc m ++ [34])
def It.ok : It → Prop
  | .pl l => (∃ c t, l = c :: t ∧ c ≠ 35 ∧ c ≠ 34) ∧ ∀ c ∈ l, c ≠ 32 ∧ c ≠ 9 ∧ c ≠ 10 ∧ c.toNat < 128
  | .txt m => Vt m
def It.sh : It → ByteArray × Bool × Bool
  | .pl l => (ba l, false, false)
  | .txt m => (ba m, true, false)
def shp (w : Wd) : ByteArray × Bool × Bool := (w.s, w.text, w.bad)

theorem tx_of_esc : ∀ (m r : List UInt8), tx (esc m ++ 34 :: r) = some (m, r)
  | [], r => by rw [esc, List.nil_append, tx_quote]
  | c :: t, r => by
    rw [esc]
    by_cases h : c = 34 ∨ c = 92
    · rw [if_pos h, List.cons_append, List.cons_append, tx_esc _ h, tx_of_esc t r]; rfl
    · rw [if_neg h]
      by_cases hn : c = 10
      · subst hn; rw [if_pos rfl, List.cons_append, List.cons_append, tx_escn, tx_of_esc t r]; rfl
      · rw [if_neg hn, List.cons_append, tx_plain _ (fun e => h (.inl e)) (fun e => h (.inr e)), tx_of_esc t r]; rfl
theorem esc_run : ∀ (r t : List UInt8), (∀ b ∈ r, 128 ≤ b.toNat) → esc (r ++ t) = r ++ esc t
  | [], t, _ => rfl
  | c :: r, t, h => by
    have hc := h c (by simp)
    rw [List.cons_append, esc, if_neg (by have := big_ne hc; intro e; rcases e with e | e; exact this.1 e; exact this.2 e), if_neg (by intro e; subst e; revert hc; decide), esc_run r t (fun b hb => h b (by simp [hb])), List.cons_append]
theorem esc_valid {m : List UInt8} (h : Vt m) : Vt (esc m) := by
  induction h with
  | nil => exact .nil
  | asc c t hc _ ih =>
    rw [esc]
    repeat' split
    · exact .asc 92 _ (by decide) (.asc c _ hc ih)
    · exact .asc 92 _ (by decide) (.asc 110 _ (by decide) ih)
    · exact .asc c _ hc ih
  | run r x t h1 h2 h3 h4 h5 _ ih => rw [esc_run r t h1]; exact .run r x _ h1 h2 h3 h4 h5 ih
theorem esc_no10 : ∀ (m : List UInt8), ∀ c ∈ esc m, c ≠ 10
  | [], c, h => by simp [esc] at h
  | d :: t, c, h => by
    rw [esc] at h
    by_cases h1 : d = 34 ∨ d = 92
    · rw [if_pos h1] at h
      simp only [List.mem_cons] at h
      rcases h with rfl | rfl | h
      · decide
      · rcases h1 with rfl | rfl <;> decide
      · exact esc_no10 t c h
    · rw [if_neg h1] at h
      by_cases h2 : d = 10
      · rw [if_pos h2] at h
        simp only [List.mem_cons] at h
        rcases h with rfl | rfl | h
        · decide
        · decide
        · exact esc_no10 t c h
      · rw [if_neg h2] at h
        simp only [List.mem_cons] at h
        rcases h with rfl | h
        · exact h2
        · exact esc_no10 t c h
theorem It.valid {i : It} (h : i.ok) : Vt i.text := by
  cases i with
  | pl l => exact .ascii fun c hc => (h.2 c hc).2.2.2
  | txt m => exact .asc 34 _ (by decide) ((esc_valid h).append (.asc 34 [] (by decide) .nil))
theorem It.no10 {i : It} (h : i.ok) : ∀ c ∈ i.text, c ≠ 10 := by
  cases i with
  | pl l => exact fun c hc => (h.2 c hc).2.2.1
  | txt m =>
    intro c hc
    simp only [It.text, List.mem_cons, List.mem_append, List.not_mem_nil, or_false] at hc
    rcases hc with rfl | hc | rfl
    · decide
    · exact esc_no10 m c hc
    · decide
theorem takeWhile_app : ∀ (l r : List UInt8) (p : UInt8 → Bool), (∀ c ∈ l, p c = true) → (r = [] ∨ ∃ c t, r = c :: t ∧ p c = false) → (l ++ r).takeWhile p = l
  | [], r, p, _, h => by
    rcases h with rfl | ⟨c, t, rfl, h⟩
    · rfl
    · simp [h]
  | c :: l, r, p, h, h' => by
    rw [List.cons_append, List.takeWhile_cons, if_pos (h c (by simp)), takeWhile_app l r p (fun d hd => h d (by simp [hd])) h']
/-- A word at a line's head. -/
theorem words_item (i : It) (h : i.ok) (rest : List UInt8) (hv : Vt rest) (hs : rest = [] ∨ ∃ c t, rest = c :: t ∧ (c = 32 ∨ c = 9)) (p : Nat) :
    ∃ p' : Nat, (words (i.text ++ rest) p).1.map shp = i.sh :: (words rest p').1.map shp := by
  cases i with
  | pl l =>
    obtain ⟨⟨c, t, rfl, h35, h34⟩, hall⟩ := h
    have hb : ¬ (c = 32 ∨ c = 9) := by
      have := hall c (by simp)
      rintro (e | e)
      · exact this.1 e
      · exact this.2.1 e
    have hn : plainLen (c :: t ++ rest) = (c :: t).length := by
      rw [plainLen, takeWhile_app (c :: t) rest _ ?_ ?_]
      · intro d hd
        have := hall d hd
        simp [this.1, this.2.1]
      · rcases hs with rfl | ⟨d, u, rfl, hd⟩
        · exact .inl rfl
        · refine .inr ⟨d, u, rfl, ?_⟩
          rcases hd with rfl | rfl <;> rfl
    refine ⟨p + (c :: t).length, ?_⟩
    show (words (c :: (t ++ rest)) p).1.map shp = _
    rw [words_plain c _ p hb h35 h34, ← List.cons_append, hn, List.take_left, List.drop_left]
    rfl
  | txt m =>
    have hvt : Vt (esc m ++ 34 :: rest) := (esc_valid h).append (.asc 34 rest (by decide) hv)
    have hq := quoteR_some hvt (tx_of_esc m rest)
    have hl : (esc m ++ 34 :: rest).length - rest.length + 1 = (34 :: (esc m ++ [34])).length := by simp; omega
    refine ⟨p + (34 :: (esc m ++ [34])).length, ?_⟩
    show (words (34 :: (esc m ++ [34]) ++ rest) p).1.map shp = _
    rw [show 34 :: (esc m ++ [34]) ++ rest = 34 :: (esc m ++ 34 :: rest) by simp, words_quote, hq, hl]
    rw [show 34 :: (esc m ++ 34 :: rest) = (34 :: (esc m ++ [34])) ++ rest by simp, List.drop_left]
    rfl
theorem words_blanks : ∀ (b rest : List UInt8) (p : Nat), (∀ c ∈ b, c = 32 ∨ c = 9) → words (b ++ rest) p = words rest (p + b.length)
  | [], rest, p, _ => rfl
  | c :: b, rest, p, h => by
    rw [List.cons_append, words_blank _ _ (h c (by simp)), words_blanks b rest (p + 1) (fun d hd => h d (by simp [hd]))]
    congr 1
    simp; omega
/-- Words behind blanks, and what stands behind them. -/
def lineOf (its : List (List UInt8 × It)) (tail : List UInt8) : List UInt8 := its.flatMap (fun p => p.1 ++ p.2.text) ++ tail
structure TailOk (tail : List UInt8) : Prop where
  valid : Vt tail
  sep : tail = [] ∨ ∃ c t, tail = c :: t ∧ (c = 32 ∨ c = 9)
  none_ : ∀ p, (words tail p).1 = []
  no10 : ∀ c ∈ tail, c ≠ 10
structure ItsOk (its : List (List UInt8 × It)) : Prop where
  blank : ∀ p ∈ its, ∀ c ∈ p.1, c = 32 ∨ c = 9
  some_ : ∀ p ∈ its, p.1 ≠ []
  ok : ∀ p ∈ its, p.2.ok
theorem ItsOk.tail {x : List UInt8 × It} {r : List (List UInt8 × It)} (h : ItsOk (x :: r)) : ItsOk r :=
  ⟨fun p hp => h.blank p (by simp [hp]), fun p hp => h.some_ p (by simp [hp]), fun p hp => h.ok p (by simp [hp])⟩
theorem blanks_valid {b : List UInt8} (h : ∀ c ∈ b, c = 32 ∨ c = 9) : Vt b := .ascii fun c hc => by
  rcases h c hc with rfl | rfl <;> decide
theorem lineOf_valid : ∀ (its : List (List UInt8 × It)) (tail : List UInt8), ItsOk its → Vt tail → Vt (lineOf its tail)
  | [], tail, _, h => h
  | x :: r, tail, h, ht => by
    have := lineOf_valid r tail h.tail ht
    simp only [lineOf, List.flatMap_cons, List.append_assoc] at this ⊢
    exact (blanks_valid (h.blank x (by simp))).append ((It.valid (h.ok x (by simp))).append this)
theorem lineOf_sep (its : List (List UInt8 × It)) (tail : List UInt8) (h : ItsOk its) (ht : TailOk tail) : lineOf its tail = [] ∨ ∃ c t, lineOf its tail = c :: t ∧ (c = 32 ∨ c = 9) := by
  cases its with
  | nil => exact ht.sep
  | cons x r =>
    obtain ⟨b, i⟩ := x
    cases b with
    | nil => exact absurd rfl (h.some_ ([], i) (by simp))
    | cons c b => exact .inr ⟨c, _, rfl, h.blank (c :: b, i) (by simp) c (by simp)⟩
theorem words_lineOf : ∀ (its : List (List UInt8 × It)) (tail : List UInt8) (p : Nat), ItsOk its → TailOk tail → (words (lineOf its tail) p).1.map shp = its.map fun x => x.2.sh
  | [], tail, p, _, ht => by
    show (words tail p).1.map shp = []
    rw [ht.none_ p]; rfl
  | x :: r, tail, p, h, ht => by
    have e : lineOf (x :: r) tail = x.1 ++ (x.2.text ++ lineOf r tail) := by simp [lineOf]
    rw [e, words_blanks _ _ _ (h.blank x (by simp))]
    obtain ⟨p', hp⟩ := words_item x.2 (h.ok x (by simp)) (lineOf r tail) (lineOf_valid r tail h.tail ht.valid) (lineOf_sep r tail h.tail ht) (p + x.1.length)
    rw [hp, words_lineOf r tail p' h.tail ht]
    rfl
/-- A line whose first word need not stand behind a blank. -/
theorem words_line (b : List UInt8) (i : It) (its : List (List UInt8 × It)) (tail : List UInt8) (p : Nat) (hb : ∀ c ∈ b, c = 32 ∨ c = 9) (hi : i.ok) (h : ItsOk its) (ht : TailOk tail) :
    (words (b ++ i.text ++ lineOf its tail) p).1.map shp = i.sh :: its.map fun x => x.2.sh := by
  rw [List.append_assoc, words_blanks _ _ _ hb]
  obtain ⟨p', hp⟩ := words_item i hi (lineOf its tail) (lineOf_valid its tail h ht.valid) (lineOf_sep its tail h ht) (p + b.length)
  rw [hp, words_lineOf its tail p' h ht]
theorem lineOf_no10 (its : List (List UInt8 × It)) (tail : List UInt8) (h : ItsOk its) (ht : TailOk tail) : ∀ c ∈ lineOf its tail, c ≠ 10 := by
  intro c hc
  simp only [lineOf, List.mem_append, List.mem_flatMap] at hc
  rcases hc with ⟨x, hx, hc⟩ | hc
  · rcases hc with hc | hc
    · rcases h.blank x hx c hc with rfl | rfl <;> decide
    · exact It.no10 (h.ok x hx) c hc
  · exact ht.no10 c hc
end Go.Proofs.Cuts
