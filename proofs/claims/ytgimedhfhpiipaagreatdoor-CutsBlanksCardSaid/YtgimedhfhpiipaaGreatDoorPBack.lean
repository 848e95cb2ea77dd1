/-
  What is laid of the words of a list that may be is parsed as that list; what is parsed may be: plain law, no program in sight. Conditions: the text is not too long.
-/
import Derived.Test.YtgimedhfhpiipaaGreatDoorPParse
namespace Go.Proofs.Cuts
open Go.Lib

theorem ofNat_toNat_eq {c : UInt8} {n : Nat} (h : c.toNat = n) : c = UInt8.ofNat n := by rw [← h]; simp
/-! ### the words of a list that may be are words -/
theorem pl_ok {l : List UInt8} (hne : l ≠ []) (h : ∀ c ∈ l, 45 ≤ c.toNat ∧ c.toNat < 128) : (It.pl l).ok := by
  have key : ∀ c : UInt8, 45 ≤ c.toNat → c ≠ 35 ∧ c ≠ 34 ∧ c ≠ 32 ∧ c ≠ 9 ∧ c ≠ 10 := by
    intro c hc
    refine ⟨?_, ?_, ?_, ?_, ?_⟩ <;> (intro e; subst e; revert hc; decide)
  cases l with
  | nil => exact absurd rfl hne
  | cons c t =>
    have hc := key c (h c (by simp)).1
    refine ⟨⟨c, t, rfl, hc.1, hc.2.1⟩, fun d hd => ?_⟩
    have hd' := key d (h d hd).1
    exact ⟨hd'.2.2.1, hd'.2.2.2.1, hd'.2.2.2.2, (h d hd).2⟩
theorem rateName_ok {r : Int} (h : isRate r = true) : (It.pl (rateName r)).ok := by
  rcases isRate_cases h with rfl | rfl | rfl | rfl | rfl | rfl | rfl <;> exact pl_ok (by decide) (by decide)
theorem name_ok {l : List UInt8} (h : nameOk l = true) : (It.pl l).ok := by
  simp only [nameOk, Bool.and_eq_true, decide_eq_true_eq, List.all_eq_true] at h
  refine pl_ok (by intro e; rw [e] at h; simp at h) fun c hc => ?_
  have := h.1.1 c hc
  simp only [nameByte, Bool.or_eq_true, Bool.and_eq_true, decide_eq_true_eq, beq_iff_eq] at this
  omega
theorem two_bytes {x : Int} (h0 : 0 ≤ x) (h1 : x < 100) : ∀ c ∈ two x, 45 ≤ c.toNat ∧ c.toNat < 128 := by
  intro c hc
  simp only [two, List.mem_cons, List.not_mem_nil, or_false] at hc
  rcases hc with rfl | rfl <;> rw [UInt8.toNat_ofNat'] <;> omega
theorem dropped_range {r n : Int} (hr : isRate r = true) (h0 : 0 ≤ n) (h1 : n < day r) : 0 ≤ n + dropped r n ∧ n + dropped r n < 86400 * rcount r := by
  rcases isRate_cases hr with rfl | rfl | rfl | rfl | rfl | rfl | rfl
  case inr.inr.inr.inl =>
    have ed : dropped 4 n = (9 * (n / 17982) + if 1800 ≤ n % 17982 then 1 + (n % 17982 - 1800) / 1798 else 0) * 2 := rfl
    have e1 : day 4 = 2589408 := rfl
    have e2 : rcount 4 = 30 := rfl
    rw [ed, e2]
    split <;> omega
  case inr.inr.inr.inr.inr.inr =>
    have ed : dropped 7 n = (9 * (n / 35964) + if 3600 ≤ n % 35964 then 1 + (n % 35964 - 3600) / 3596 else 0) * 4 := rfl
    have e1 : day 7 = 5178816 := rfl
    have e2 : rcount 7 = 60 := rfl
    rw [ed, e2]
    split <;> omega
  all_goals
    simp only [dropped, show rdrop 1 = 0 from rfl, show rdrop 2 = 0 from rfl, show rdrop 3 = 0 from rfl, show rdrop 5 = 0 from rfl, show rdrop 6 = 0 from rfl, Int.mul_zero, Int.add_zero]
    first
      | (have e : day 1 = 86400 * 24 := rfl; have e2 : rcount 1 = 24 := rfl; rw [e2]; omega)
      | (have e : day 2 = 86400 * 25 := rfl; have e2 : rcount 2 = 25 := rfl; rw [e2]; omega)
      | (have e : day 3 = 86400 * 30 := rfl; have e2 : rcount 3 = 30 := rfl; rw [e2]; omega)
      | (have e : day 5 = 86400 * 50 := rfl; have e2 : rcount 5 = 50 := rfl; rw [e2]; omega)
      | (have e : day 6 = 86400 * 60 := rfl; have e2 : rcount 6 = 60 := rfl; rw [e2]; omega)
/-- The parts of a name. -/
theorem name_parts {r n : Int} (hr : isRate r = true) (h0 : 0 ≤ n) (h1 : n < day r) : (0 ≤ (n + dropped r n) / rcount r ∧ (n + dropped r n) / rcount r < 86400) ∧ 0 ≤ (n + dropped r n) % rcount r ∧ (n + dropped r n) % rcount r < 60 := by
  have h := dropped_range hr h0 h1
  have hc : rcount r = 24 ∨ rcount r = 25 ∨ rcount r = 30 ∨ rcount r = 50 ∨ rcount r = 60 := by
    rcases isRate_cases hr with rfl | rfl | rfl | rfl | rfl | rfl | rfl <;> simp [rcount]
  rcases hc with e | e | e | e | e <;> rw [e] at h ⊢ <;> omega
theorem nameOf_ok {r n : Int} (hr : isRate r = true) (h0 : 0 ≤ n) (h1 : n < day r) : (It.pl (nameOf r n)).ok := by
  obtain ⟨hs, hf⟩ := name_parts hr h0 h1
  have hm : 45 ≤ (UInt8.ofNat (markOf r)).toNat ∧ (UInt8.ofNat (markOf r)).toNat < 128 := by
    rw [mark_ok]; unfold markOf; split <;> omega
  refine pl_ok ?_ fun c hc => ?_
  · simp [nameOf, two]
  · simp only [nameOf, List.append_assoc, List.mem_append, List.mem_cons, List.not_mem_nil, or_false] at hc
    rcases hc with hc | rfl | hc | rfl | hc | rfl | hc
    · exact two_bytes (by omega) (by omega) c hc
    · decide
    · exact two_bytes (by omega) (by omega) c hc
    · decide
    · exact two_bytes (by omega) (by omega) c hc
    · exact hm
    · exact two_bytes (by omega) (by omega) c hc
theorem headIts_ok {cl : CL} (h : May cl) : ∀ i ∈ headIts cl, i.ok := by
  intro i hi
  simp only [headIts, List.mem_cons, List.not_mem_nil, or_false] at hi
  rcases hi with rfl | rfl | rfl
  · exact pl_ok (by decide) (by decide)
  · exact rateName_ok h.rate
  · exact valid_iff.1 h.valid
theorem evIts_ok {r : Int} {ah : List Ev} {e : Ev} (hr : isRate r = true) (h : EvMay ah e (day r)) : ∀ i ∈ evIts r e, i.ok := by
  intro i hi
  have hf := fadesB_range h.fades
  have h0 := h.i0
  have h1 := h.io
  have h2 := h.od
  simp only [evIts, List.append_assoc, List.mem_append, List.mem_cons, List.not_mem_nil, or_false] at hi
  rcases hi with hi | (rfl | rfl | rfl) | hi
  · by_cases hp : 0 < e.fade
    · rw [if_pos hp] at hi
      simp only [List.mem_cons, List.not_mem_nil, or_false] at hi
      rcases hi with rfl | rfl
      · exact pl_ok (by decide) (by decide)
      · obtain ⟨g1, g2⟩ := itoa_dig (n := e.fade) (by omega) (by omega)
        exact pl_ok g2 fun c hc => by have := g1 c hc; omega
    · rw [if_neg hp] at hi
      simp only [List.mem_cons, List.not_mem_nil, or_false] at hi
      subst hi
      exact pl_ok (by decide) (by decide)
  · exact name_ok h.reel
  · exact nameOf_ok hr h0 (by omega)
  · exact nameOf_ok hr (by omega) h2
  · by_cases hp : e.note.size = 0
    · rw [if_pos hp] at hi; cases hi
    · rw [if_neg hp] at hi
      simp only [List.mem_cons, List.not_mem_nil, or_false] at hi
      subst hi
      exact valid_iff.1 h.valid

/-! ### rows -/
/-- A line that is laid of words, behind lines that say nothing. -/
structure Row where
  pre : List (List UInt8)
  b : List UInt8
  first : It
  its : List (List UInt8 × It)
  tail : List UInt8
def Row.line (x : Row) : List UInt8 := x.b ++ x.first.text ++ lineOf x.its x.tail
def Row.lines (x : Row) : List (List UInt8) := x.pre ++ [x.line]
def Row.items (x : Row) : List It := x.first :: x.its.map (·.2)
structure Row.Ok (x : Row) : Prop where
  pre : ∀ l ∈ x.pre, (∀ c ∈ l, c ≠ 10) ∧ (∀ p, (words l p).1 = []) ∧ Vt l
  blank : ∀ c ∈ x.b, c = 32 ∨ c = 9
  first : x.first.ok
  its : ItsOk x.its
  tail : TailOk x.tail
theorem Row.Ok.no10 {x : Row} (h : x.Ok) : ∀ c ∈ x.line, c ≠ 10 := by
  intro c hc
  simp only [Row.line, List.append_assoc, List.mem_append] at hc
  rcases hc with hc | hc | hc
  · rcases h.blank c hc with rfl | rfl <;> decide
  · exact It.no10 h.first c hc
  · exact lineOf_no10 x.its x.tail h.its h.tail c hc
theorem Row.Ok.words {x : Row} (h : x.Ok) (p : Nat) : (words x.line p).1.map shp = x.items.map It.sh := by
  rw [Row.line, words_line x.b x.first x.its x.tail p h.blank h.first h.its h.tail]
  simp [Row.items, Function.comp_def]
theorem Row.Ok.valid {x : Row} (h : x.Ok) : ∀ l ∈ x.lines, Vt l := by
  intro l hl
  simp only [Row.lines, List.mem_append, List.mem_cons, List.not_mem_nil, or_false] at hl
  rcases hl with hl | rfl
  · exact (h.pre l hl).2.2
  · exact ((blanks_valid h.blank).append (It.valid h.first)).append (lineOf_valid x.its x.tail h.its h.tail.valid)
theorem told_pre : ∀ (pre : List (List UInt8)) (ls : List (List UInt8)) (c : Option CL) (d : CL), (∀ l ∈ pre, (∀ c ∈ l, c ≠ 10) ∧ (∀ p, (words l p).1 = []) ∧ Vt l) → Told c ls d → Told c (pre ++ ls) d
  | [], ls, c, d, _, h => h
  | l :: pre, ls, c, d, hp, h => .skip c l _ d (hp l (by simp)).1 (hp l (by simp)).2.1 (told_pre pre ls c d (fun x hx => hp x (by simp [hx])) h)
theorem told_evs (cl : CL) : ∀ (rows : List Row) (a b : List Ev), cl.evs = a ++ b → May cl → (∀ x ∈ rows, x.Ok) → rows.map Row.items = b.map (evIts cl.rate) → Told (some { cl with evs := a }) (rows.flatMap Row.lines) cl
  | [], a, b, he, _, _, hi => by
    have hb : b = [] := by simpa using hi.symm
    subst hb
    rw [List.append_nil] at he
    have : { cl with evs := a } = cl := by rw [← he]
    rw [this]
    exact .done cl
  | x :: rows, a, [], he, _, _, hi => by simp at hi
  | x :: rows, a, e :: b, he, hm, hok, hi => by
    simp only [List.map_cons, List.cons.injEq] at hi
    have hx := hok x (by simp)
    rw [List.flatMap_cons, Row.lines, List.append_assoc]
    refine told_pre _ _ _ _ hx.pre ?_
    have hm' : May { cl with evs := a ++ [e] } := by
      have : May { cl with evs := (a ++ [e]) ++ b } := by
        have e2 : { cl with evs := (a ++ [e]) ++ b } = cl := by rw [List.append_assoc]; simp only [List.cons_append, List.nil_append]; rw [← he]
        rw [e2]; exact hm
      exact this.front
    refine .event x.line _ { cl with evs := a } cl e hx.no10 (fun p => ?_) hm' ?_
    · rw [hx.words p, hi.1]
    · exact told_evs cl rows (a ++ [e]) b (by rw [he]; simp) hm (fun y hy => hok y (by simp [hy])) hi.2
theorem told_rows (cl : CL) (hd : Row) (rows : List Row) (hm : May cl) (hh : hd.Ok) (hok : ∀ x ∈ rows, x.Ok) (h1 : hd.items = headIts cl) (h2 : rows.map Row.items = cl.evs.map (evIts cl.rate)) : Told none (hd.lines ++ rows.flatMap Row.lines) cl := by
  rw [Row.lines, List.append_assoc]
  refine told_pre _ _ _ _ hh.pre ?_
  refine .head hd.line _ cl cl hh.no10 (fun p => ?_) hm ?_
  · rw [hh.words p, h1]
  · exact told_evs cl rows [] cl.evs rfl hm hok h2
theorem textOf_valid : ∀ (ls : List (List UInt8)), (∀ l ∈ ls, Vt l) → Vt (textOf ls)
  | [], _ => .nil
  | l :: ls, h => by
    rw [textOf_cons]
    exact (h l (by simp)).append (.asc 10 _ (by decide) (textOf_valid ls fun x hx => h x (by simp [hx])))
/-- A text that is laid of the rows of a list that may be is parsed as that list. -/
theorem parse_rows (cl : CL) (hd : Row) (rows : List Row) (hm : May cl) (hh : hd.Ok) (hok : ∀ x ∈ rows, x.Ok) (h1 : hd.items = headIts cl) (h2 : rows.map Row.items = cl.evs.map (evIts cl.rate)) (s : ByteArray) (hs : bl s = textOf (hd.lines ++ rows.flatMap Row.lines)) (hl : s.size ≤ 20000) : parse s = .ok cl := by
  refine told_all (told_rows cl hd rows hm hh hok h1 h2) hs (textOf_valid _ fun l hl => ?_) hl
  simp only [List.mem_append, List.mem_flatMap] at hl
  rcases hl with hl | ⟨x, hx, hl⟩
  · exact hh.valid l hl
  · exact (hok x hx).valid l hl

/-! ### what Print writes -/
def rowOf : List It → Row
  | [] => ⟨[], [], .txt [], [], []⟩
  | i :: r => ⟨[], [], i, r.map fun x => ([32], x), []⟩
theorem rowOf_items {l : List It} (h : l ≠ []) : (rowOf l).items = l := by
  cases l with
  | nil => exact absurd rfl h
  | cons i r => simp [rowOf, Row.items, Function.comp_def]
theorem tailOk_nil : TailOk [] := ⟨.nil, .inl rfl, fun _ => rfl, by intro c hc; cases hc⟩
theorem rowOf_ok {l : List It} (hne : l ≠ []) (h : ∀ i ∈ l, i.ok) : (rowOf l).Ok := by
  cases l with
  | nil => exact absurd rfl hne
  | cons i r =>
    refine ⟨(by intro l hl; cases hl), (by intro c hc; cases hc), h i (by simp), ⟨?_, ?_, ?_⟩, tailOk_nil⟩
    · intro p hp c hc
      obtain ⟨x, _, rfl⟩ := List.mem_map.1 hp
      simp only [List.mem_cons, List.not_mem_nil, or_false] at hc
      exact .inl hc
    · intro p hp
      obtain ⟨x, _, rfl⟩ := List.mem_map.1 hp
      simp
    · intro p hp
      obtain ⟨x, hx, rfl⟩ := List.mem_map.1 hp
      exact h x (by simp [hx])
def rowText (l : List It) : List UInt8 := (rowOf l).line
def printText (cl : CL) : List UInt8 := textOf (rowText (headIts cl) :: cl.evs.map fun e => rowText (evIts cl.rate e))
theorem evIts_ne (r : Int) (e : Ev) : evIts r e ≠ [] := by
  rw [evIts_parts, fadeIts]
  split <;> simp
theorem evMay_all {cl : CL} (hm : May cl) : ∀ e ∈ cl.evs, ∃ ah, EvMay ah e (day cl.rate) := by
  intro e he
  obtain ⟨a, b, hab⟩ := List.append_of_mem he
  have : May { cl with evs := (a ++ [e]) ++ b } := by
    have e2 : { cl with evs := (a ++ [e]) ++ b } = cl := by rw [List.append_assoc]; simp only [List.cons_append, List.nil_append]; rw [← hab]
    rw [e2]; exact hm
  exact ⟨a, this.front.last⟩
theorem parse_print {cl : CL} (hm : May cl) {s : ByteArray} (hs : bl s = printText cl) (hl : s.size ≤ 20000) : parse s = .ok cl := by
  have hok : ∀ x ∈ cl.evs.map (fun e => rowOf (evIts cl.rate e)), x.Ok := by
    intro x hx
    obtain ⟨e, he, rfl⟩ := List.mem_map.1 hx
    obtain ⟨ah, hE⟩ := evMay_all hm e he
    exact rowOf_ok (evIts_ne _ _) (evIts_ok hm.rate hE)
  refine parse_rows cl (rowOf (headIts cl)) (cl.evs.map fun e => rowOf (evIts cl.rate e)) hm (rowOf_ok (by simp [headIts]) (headIts_ok hm)) hok (rowOf_items (by simp [headIts])) ?_ s ?_ hl
  · rw [List.map_map]
    exact List.map_congr_left fun e _ => rowOf_items (evIts_ne _ _)
  · rw [hs, printText]
    congr 1
    have hpre : ∀ l : List It, (rowOf l).pre = [] := by intro l; cases l <;> rfl
    simp only [Row.lines, hpre, List.nil_append, List.cons_append, rowText, List.cons.injEq, true_and, List.flatMap_map]
    induction cl.evs with
    | nil => rfl
    | cons e r ih => simp only [List.map_cons, List.flatMap_cons, List.cons_append, List.nil_append]; rw [ih]

/-! ### what is parsed may be -/
theorem next_ok' {en : Int} {tx : Bool} {l r : List Wd} {x : Wd} (h : next en tx l = .ok (x, r)) : l = x :: r ∧ x.bad = false ∧ x.text = tx ∧ (tx = true → x.s.size ≤ 100) := by
  cases l with
  | nil => cases h
  | cons w t =>
    rw [next] at h
    by_cases h1 : w.bad = true ∨ w.text ≠ tx
    · rw [if_pos h1] at h; cases h
    · rw [if_neg h1] at h
      by_cases h2 : tx = true ∧ 100 < w.s.size
      · rw [if_pos h2] at h; cases h
      · rw [if_neg h2] at h
        cases h
        refine ⟨rfl, ?_, ?_, fun ht => ?_⟩
        · cases hb : x.bad with
          | false => rfl
          | true => exact absurd (.inl hb) h1
        · exact Classical.byContradiction fun e => h1 (.inr e)
        · exact Nat.le_of_not_lt fun e => h2 ⟨ht, e⟩
theorem plainW_ok' {en : Int} {holds : ByteArray → Bool} {l r : List Wd} {x : Wd} (h : plainW en holds l = .ok (x, r)) : l = x :: r ∧ holds x.s = true := by
  unfold plainW at h
  cases hn : next en false l with
  | error e => rw [hn] at h; cases h
  | ok p =>
    obtain ⟨y, r'⟩ := p
    rw [hn] at h
    simp only at h
    cases hh : holds y.s with
    | false => rw [hh] at h; cases h
    | true => rw [hh] at h; cases h; exact ⟨(next_ok' hn).1, hh⟩
theorem isRate_rateOf {l : List UInt8} (h : rateOf l ≠ 0) : isRate (rateOf l) = true := by
  unfold rateOf at h ⊢
  repeat' split
  all_goals first | rfl | (exfalso; revert h; simp_all)
theorem dropWhile_drop : ∀ (l : List UInt8) (p : UInt8 → Bool), l.dropWhile p = l.drop (l.takeWhile p).length
  | [], p => rfl
  | c :: t, p => by
    rw [List.dropWhile_cons, List.takeWhile_cons]
    by_cases h : p c = true
    · rw [if_pos h, if_pos h, dropWhile_drop t p]; rfl
    · rw [if_neg h, if_neg h]; rfl
theorem tx_suf : ∀ (n : Nat) (l m r : List UInt8), l.length ≤ n → tx l = some (m, r) → ∃ pre, l = pre ++ r
  | 0, l, m, r, h, ht => by
    obtain rfl : l = [] := List.eq_nil_of_length_eq_zero (by omega)
    rw [tx_nil] at ht; cases ht
  | n + 1, [], m, r, h, ht => by rw [tx_nil] at ht; cases ht
  | n + 1, c :: t, m, r, h, ht => by
    simp only [List.length_cons] at h
    by_cases h1 : c = 34
    · subst h1; rw [tx_quote] at ht; cases ht; exact ⟨[34], rfl⟩
    · by_cases h2 : c = 92
      · subst h2
        cases t with
        | nil => rw [tx_esc0] at ht; cases ht
        | cons d u =>
          simp only [List.length_cons] at h
          by_cases hd : d = 34 ∨ d = 92
          · rw [tx_esc u hd] at ht
            obtain ⟨⟨m', r'⟩, hp, e⟩ := Option.map_eq_some_iff.1 ht
            simp only [Prod.mk.injEq] at e; obtain ⟨rfl, rfl⟩ := e
            obtain ⟨pre, e⟩ := tx_suf n u m' _ (by omega) hp
            exact ⟨92 :: d :: pre, by rw [e]; rfl⟩
          · by_cases hn : d = 110
            · subst hn
              rw [tx_escn] at ht
              obtain ⟨⟨m', r'⟩, hp, e⟩ := Option.map_eq_some_iff.1 ht
              simp only [Prod.mk.injEq] at e; obtain ⟨rfl, rfl⟩ := e
              obtain ⟨pre, e⟩ := tx_suf n u m' _ (by omega) hp
              exact ⟨92 :: 110 :: pre, by rw [e]; rfl⟩
            · rw [tx_escx u (fun e => hd (.inl e)) (fun e => hd (.inr e)) hn] at ht; cases ht
      · rw [tx_plain t h1 h2] at ht
        obtain ⟨⟨m', r'⟩, hp, e⟩ := Option.map_eq_some_iff.1 ht
        simp only [Prod.mk.injEq] at e; obtain ⟨rfl, rfl⟩ := e
        obtain ⟨pre, e⟩ := tx_suf n t m' _ (by omega) hp
        exact ⟨c :: pre, by rw [e]; rfl⟩
theorem tx_drop {t m r : List UInt8} (h : tx t = some (m, r)) : ((34 : UInt8) :: t).drop (t.length - r.length + 1) = r := by
  obtain ⟨pre, rfl⟩ := tx_suf _ t m r (Nat.le_refl _) h
  simp
theorem drop_valid_plain : ∀ (n : Nat) (l : List UInt8), l.length ≤ n → Vt l → Vt (l.drop (plainLen l)) := by
  intro n l _ h
  have key : l = l.take (plainLen l) ++ l.drop (plainLen l) := (List.take_append_drop _ _).symm
  cases hd : l.drop (plainLen l) with
  | nil => exact .nil
  | cons c t =>
    have hc : (!(c == 32 || c == 9)) = false := by
      have h1 : l.dropWhile (fun c => !(c == 32 || c == 9)) = c :: t := by
        rw [← hd, plainLen]
        exact dropWhile_drop l _
      have := List.head?_dropWhile_not (fun c : UInt8 => !(c == 32 || c == 9)) l
      rw [h1] at this
      simpa using this
    have hb : c.toNat < 128 := by
      simp only [Bool.not_eq_false', Bool.or_eq_true, beq_iff_eq] at hc
      rcases hc with rfl | rfl <;> decide
    rw [hd] at key
    exact .asc c t hb (h.part hb key).2
/-- The texts of a valid line are valid, up to the first word that is none. -/
theorem words_valid : ∀ (n : Nat) (l : List UInt8) (p : Nat), l.length ≤ n → Vt l → ∀ (a : List Wd) (w : Wd) (b : List Wd), (words l p).1 = a ++ w :: b → (∀ x ∈ a, x.bad = false) → w.bad = false → w.text = true → Vt (bl w.s) := by
  intro n
  induction n with
  | zero =>
    intro l p hl _ a w b hw
    obtain rfl : l = [] := List.eq_nil_of_length_eq_zero (by omega)
    rw [words_nil] at hw; simp at hw
  | succ n ih =>
    intro l p hl hv a w b hw ha hb ht
    cases l with
    | nil => rw [words_nil] at hw; simp at hw
    | cons c t =>
      simp only [List.length_cons] at hl
      by_cases h1 : c = 32 ∨ c = 9
      · rw [words_blank t p h1] at hw
        exact ih t _ (by omega) (hv.tail (by rcases h1 with rfl | rfl <;> decide)) a w b hw ha hb ht
      · by_cases h2 : c = 35
        · subst h2; rw [words_hash] at hw; simp at hw
        · by_cases h3 : c = 34
          · subst h3
            have hvt := hv.tail (by decide)
            rw [words_quote] at hw
            simp only at hw
            cases hx : tx t with
            | none =>
              have hbad := quoteR_none hvt hx
              cases a with
              | nil =>
                simp only [List.nil_append, List.cons.injEq] at hw
                rw [← hw.1] at hb
                rw [show (⟨p, ba (quoteR t).1, true, (quoteR t).2.1⟩ : Wd).bad = (quoteR t).2.1 from rfl, hbad] at hb; cases hb
              | cons x a =>
                simp only [List.cons_append, List.cons.injEq] at hw
                have hb' := ha x (by simp)
                rw [← hw.1] at hb'
                rw [show (⟨p, ba (quoteR t).1, true, (quoteR t).2.1⟩ : Wd).bad = (quoteR t).2.1 from rfl, hbad] at hb'; cases hb'
            | some q =>
              obtain ⟨m, r⟩ := q
              have hs := quoteR_some hvt hx
              have hlen := tx_len _ t m r (Nat.le_refl _) hx
              have hval := tx_valid _ t m r (Nat.le_refl _) hvt hx
              rw [hs] at hw
              simp only [tx_drop hx] at hw
              cases a with
              | nil =>
                simp only [List.nil_append, List.cons.injEq] at hw
                rw [← hw.1]
                show Vt (bl (ba m))
                rw [bl_ba]; exact hval.1
              | cons x a =>
                simp only [List.cons_append, List.cons.injEq] at hw
                exact ih r _ (by omega) hval.2 a w b hw.2 (fun y hy => ha y (by simp [hy])) hb ht
          · rw [words_plain c t p h1 h2 h3] at hw
            simp only at hw
            cases a with
            | nil =>
              simp only [List.nil_append, List.cons.injEq] at hw
              rw [← hw.1] at ht; cases ht
            | cons x a =>
              simp only [List.cons_append, List.cons.injEq] at hw
              have hp := plainLen_pos c t h1
              exact ih _ _ (by rw [List.length_drop, List.length_cons]; omega) (drop_valid_plain _ _ (Nat.le_refl _) hv) a w b hw.2 (fun y hy => ha y (by simp [hy])) hb ht
theorem headLine_may {l : List UInt8} {p : Nat} {en : Int} {t : ByteArray} {r : Int} (hv : Vt l) (h : headLine en (words l p).1 = .ok (t, r)) : May ⟨t, r, []⟩ := by
  obtain ⟨ws, hws⟩ : ∃ x, (words l p).1 = x := ⟨_, rfl⟩
  rw [hws] at h
  unfold headLine at h
  cases h1 : plainW en (fun s => s == listS) ws with
  | error e => rw [h1] at h; cases h
  | ok q =>
    obtain ⟨x1, l1⟩ := q
    rw [h1] at h
    simp only at h
    cases h2 : plainW en (fun s => decide (rateOf (bl s) ≠ 0)) l1 with
    | error e => rw [h2] at h; cases h
    | ok q =>
      obtain ⟨x2, l2⟩ := q
      rw [h2] at h
      simp only at h
      cases h3 : next en true l2 with
      | error e => rw [h3] at h; cases h
      | ok q =>
        obtain ⟨x3, l3⟩ := q
        rw [h3] at h
        simp only at h
        cases h4 : doneW l3 with
        | some e => rw [h4] at h; cases h
        | none =>
          rw [h4] at h
          simp only [Except.ok.injEq, Prod.mk.injEq] at h
          obtain ⟨rfl, rfl⟩ := h
          obtain ⟨e1, f1⟩ := plainW_ok' h1
          obtain ⟨e2, f2⟩ := plainW_ok' h2
          obtain ⟨e3, f3, f4, f5⟩ := next_ok' h3
          have b1 : x1.bad = false := by
            unfold plainW at h1
            cases hn : next en false ws with
            | error e => rw [hn] at h1; cases h1
            | ok q =>
              obtain ⟨y, u⟩ := q
              have := next_ok' hn
              rw [this.1, List.cons.injEq] at e1
              rw [← e1.1]; exact this.2.1
          have b2 : x2.bad = false := by
            unfold plainW at h2
            cases hn : next en false l1 with
            | error e => rw [hn] at h2; cases h2
            | ok q =>
              obtain ⟨y, u⟩ := q
              have := next_ok' hn
              rw [this.1, List.cons.injEq] at e2
              rw [← e2.1]; exact this.2.1
          have hval := words_valid _ l p (Nat.le_refl _) hv [x1, x2] x3 l3 (by rw [hws, e1, e2, e3]; rfl) (by
            intro x hx
            simp only [List.mem_cons, List.not_mem_nil, or_false] at hx
            rcases hx with rfl | rfl
            · exact b1
            · exact b2) f3 f4
          exact ⟨f5 rfl, valid_of_vt hval, isRate_rateOf (by simpa using f2), by simp, rfl⟩
theorem eventLine_may {en : Int} {cl : CL} {l : List Wd} {ev : Ev} (h : eventLine en cl l = .ok ev) : May { cl with evs := cl.evs ++ [ev] } := by
  by_cases h200 : cl.evs.length = 200
  · rw [eventLine.eq_def, if_pos h200] at h; cases h
  · rw [eventLine_p _ _ _ h200] at h
    repeat' split at h
    all_goals first
      | (cases h; done)
      | (cases h; refine (may_iff _).1 ?_; assumption)
/-- What parse tells may be. -/
theorem parseGo_may (N : Nat) : ∀ (f : Nat) (l : List UInt8) (p : Nat) (c : Option CL) (d : CL), Vt l → (∀ x, c = some x → May x) → parseGo N f l p c = .ok d → May d
  | 0, l, p, c, d, _, _, h => by cases h
  | f + 1, l, p, c, d, hv, hc, h => by
    rw [parseGo.eq_def] at h
    simp only at h
    by_cases hl : l = []
    · rw [if_pos hl] at h
      cases c with
      | none => cases h
      | some x => cases h; exact hc _ rfl
    · rw [if_neg hl] at h
      have hline : Vt (l.take (lineLen l)) ∧ Vt (l.drop (lineLen l + 1)) := by
        have e1 : l.takeWhile (fun c => !(c == 10)) = l.take (lineLen l) := (List.prefix_iff_eq_take.1 (List.takeWhile_prefix _))
        have e2 : l.dropWhile (fun c => !(c == 10)) = l.drop (lineLen l) := dropWhile_drop l _
        have key : l = l.take (lineLen l) ++ l.drop (lineLen l) := (List.take_append_drop _ _).symm
        cases hd : l.drop (lineLen l) with
        | nil =>
          rw [hd, List.append_nil] at key
          refine ⟨by rw [← key]; exact hv, ?_⟩
          rw [← List.drop_drop, hd]; exact .nil
        | cons x t =>
          have hx : x = 10 := by
            have := List.head?_dropWhile_not (fun c : UInt8 => !(c == 10)) l
            rw [e2, hd] at this
            simpa using this
          subst hx
          rw [hd] at key
          obtain ⟨g1, g2⟩ := hv.part (by decide) key
          refine ⟨g1, ?_⟩
          rw [← List.drop_drop, hd]; exact g2
      split at h
      · exact parseGo_may N f _ _ c d hline.2 hc h
      · rename_i w r hw
        split at h
        · split at h
          · cases h
          · rename_i t ra hh
            refine parseGo_may N f _ _ _ d hline.2 ?_ h
            intro x hx
            cases hx
            rw [← hw] at hh
            exact headLine_may hline.1 hh
        · split at h
          · cases h
          · rename_i ev hh
            refine parseGo_may N f _ _ _ d hline.2 ?_ h
            intro x hx
            cases hx
            exact eventLine_may hh
theorem parse_may {s : ByteArray} {d : CL} (h : parse s = .ok d) : May d := by
  unfold parse at h
  by_cases h1 : 20000 < s.size
  · rw [if_pos h1] at h; cases h
  · rw [if_neg h1] at h
    cases hu : unruly (bl s) with
    | some k => rw [hu] at h; cases h
    | none =>
      rw [hu] at h
      exact parseGo_may s.size _ _ _ _ d ((unruly_none _).1 hu) (by intro x hx; cases hx) h
end Go.Proofs.Cuts
