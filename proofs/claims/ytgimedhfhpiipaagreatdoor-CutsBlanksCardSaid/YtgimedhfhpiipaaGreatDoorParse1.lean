/-
  cuts.Parse, what its loop keeps, and how a round changes it. Conditions: none of the program.
-/
import Derived.Test.YtgimedhfhpiipaaGreatDoorParse
import Derived.Test.YtgimedhfhpiipaaGreatDoorLines
import Derived.Test.YtgimedhfhpiipaaGreatDoorWordsAt
import Derived.Test.YtgimedhfhpiipaaGreatDoorPWords
namespace Go.Proofs.Cuts
open Go.RowKit

/-- The list as it stands behind some lines; none: no line yet. -/
def clOf : Option CL → CL
  | some c => c
  | none => ⟨⟨#[]⟩, 0, []⟩
/-- What the loop keeps. -/
structure PInv (w : World) (P : Nat) (wx : World) (c : Option CL) : Prop where
  gr : Gr w wx
  res : wx.heap[w.heap.size]? = some (.cells #[.string ⟨#[]⟩, .int .i64 0, .slice none 0 0] 30 (0, 0))
  cl : CLAt wx (P + 1) P (clOf c)
  len : (clOf c).evs.length ≤ 200
  txt : ∀ e ∈ (clOf c).evs, e.reel.size ≤ maxLen ∧ e.note.size ≤ maxLen

theorem Gr.own {w a c : World} {b : Nat} (h : Gr w a) (g : Kp b a c) (hb : w.heap.size ≤ b) : Gr w c :=
  (((Kp.refl w.heap.size w).gr h).own g hb).below (Nat.le_refl _)
theorem Gr.kv {w a c : World} {R P B : Nat} (h : Gr w a) (g : Kv R P B a c) (hR : w.heap.size ≤ R) (hP : w.heap.size ≤ P) (hB : w.heap.size ≤ B) : Gr w c :=
  ⟨g.os.trans h.below.os, g.tape.trans h.below.tape, g.output.trans h.below.output, Nat.le_trans h.size g.size, fun k hk => (g.block k (Nat.lt_of_lt_of_le hk h.size) (by omega) (by omega) (fun hb => by omega)).trans (h.below.block k hk)⟩
theorem PInv.lt {w wx : World} {P : Nat} {c : Option CL} (h : PInv w P wx c) : w.heap.size < wx.heap.size ∧ P < wx.heap.size := by
  obtain ⟨v, hP, _⟩ := h.cl
  exact ⟨(Array.getElem?_eq_some_iff.1 h.res).1, (Array.getElem?_eq_some_iff.1 hP).1⟩
theorem PInv.gr' {w wx wy : World} {P : Nat} {c : Option CL} (h : PInv w P wx c) (g : Gr wx wy) : PInv w P wy c := by
  obtain ⟨v, hP, hown⟩ := h.cl
  exact ⟨h.gr.trans g, (g.below.block _ h.lt.1).trans h.res, ⟨v, (g.below.block _ h.lt.2).trans hP, own_gr hown g⟩, h.len, h.txt⟩
theorem PInv.kp {w wx wy : World} {P R : Nat} {c : Option CL} (h : PInv w P wx c) (g : Kp R wx wy) {cs : Array Value} {fz : Nat × Nat} (hR : wx.heap[R]? = some (.cells cs 64 fz)) (hw : w.heap.size < R) (hPR : P ≠ R) : PInv w P wy c := by
  obtain ⟨v, hP, hown⟩ := h.cl
  exact ⟨h.gr.own g (Nat.le_of_lt hw), g.heap (by omega) h.res, ⟨v, g.heap hPR hP, own_kp hown g hR⟩, h.len, h.txt⟩

theorem PInv.setCl {w wx : World} {P : Nat} {c : Option CL} (h : PInv w P wx c) (hw : w.heap.size < P) (t : ByteArray) (r : Int) : PInv w P (set3 wx P (.string t) (.int .i64 r) (.slice none 0 0)) (some ⟨t, r, []⟩) := by
  obtain ⟨v, hP, hown⟩ := h.cl
  have hk := set3_kp wx P (.string t) (.int .i64 r) (.slice none 0 0)
  exact ⟨h.gr.own hk (Nat.le_of_lt hw), hk.heap (by omega) h.res, ⟨_, (set_block (set_block (set_block hP _) _) _).trans rfl, ⟨rfl, .inl ⟨rfl, rfl⟩⟩⟩, by simp [clOf], by intro e he; cases he⟩
theorem PInv.kv {w wx wy : World} {P R : Nat} {cl : CL} {ev : Ev} {en : Int} {l : List Wd} (h : PInv w P wx (some cl)) (g : Kv R P (P + 1) wx wy) (hC : CLAt wy (P + 1) P { cl with evs := cl.evs ++ [ev] }) (he : eventLine en cl l = .ok ev) (hR : w.heap.size < R) (hP : w.heap.size < P) : PInv w P wy (some { cl with evs := cl.evs ++ [ev] }) := by
  obtain ⟨h1, h2, h3⟩ := eventLine_size he
  have hlen : cl.evs.length ≤ 200 := h.len
  refine ⟨h.gr.kv g (by omega) (by omega) (by omega), (g.block _ h.lt.1 (by omega) (by omega) (fun hb => by omega)).trans h.res, hC, ?_, ?_⟩
  · simp only [clOf, List.length_append, List.length_cons, List.length_nil]; omega
  · intro e hm
    simp only [clOf, List.mem_append, List.mem_cons, List.not_mem_nil, or_false] at hm
    rcases hm with hm | rfl
    · exact h.txt e hm
    · unfold maxLen; omega

theorem rd_words {w : World} {R m cap en : Nat} {A : Option Addr} {B : Nat} {ws : List Wd} (hR : w.heap[R]? = some (.cells #[.slice none 0 0, .int .i64 0] 64 (0, 0))) (hm : ws.length = m) (hown : w.ownsRow B 114 4 (.slice A m cap) m (wdCells ws)) (hB : R < B) :
    Rd ((w.setCell ⟨R, 0, none⟩ (.slice A m cap)).setCell ⟨R, 1, none⟩ (.int .i64 en)) R w.heap.size en ws := by
  subst hm
  have hk : Kp R w ((w.setCell ⟨R, 0, none⟩ (.slice A ws.length cap)).setCell ⟨R, 1, none⟩ (.int .i64 en)) := ((Kp.refl R w).set (p := ⟨R, 0, none⟩) (.inr rfl) _).set (p := ⟨R, 1, none⟩) (.inr rfl) _
  refine ⟨A, cap, ?_, ?_, (wdsAt_own hown hB).kp hk⟩
  · rcases Joins.ownsRow_forms hown with ⟨h0, h1⟩ | ⟨g, cap', h0⟩
    · omega
    · cases h0; exact own_cap hown
  · rw [set_block (set_block hR _) _]; rfl

/-- A word that is no text is no longer than the line. -/
theorem words_size : ∀ (n : Nat) (l : List UInt8) (p : Nat), l.length ≤ n → ∀ w ∈ (words l p).1, w.text = false → w.s.size ≤ l.length := by
  intro n
  induction n with
  | zero =>
    intro l p hl w hw
    obtain rfl : l = [] := List.eq_nil_of_length_eq_zero (by omega)
    rw [words_nil] at hw; cases hw
  | succ n ih =>
    intro l p hl w hw ht
    cases l with
    | nil => rw [words_nil] at hw; cases hw
    | cons c t =>
      simp only [List.length_cons] at hl ⊢
      by_cases h1 : c = 32 ∨ c = 9
      · rw [words_blank t p h1] at hw
        have := ih t _ (by omega) w hw ht
        omega
      · by_cases h2 : c = 35
        · subst h2; rw [words_hash] at hw; cases hw
        · by_cases h3 : c = 34
          · subst h3
            have hq := quoteR_pos t
            rw [words_quote] at hw
            simp only [List.mem_cons] at hw
            rcases hw with rfl | hw
            · cases ht
            · have := ih _ _ (by rw [List.length_drop, List.length_cons]; omega) w hw ht
              rw [List.length_drop, List.length_cons] at this
              omega
          · have hp := plainLen_pos c t h1
            rw [words_plain c t p h1 h2 h3] at hw
            simp only [List.mem_cons] at hw
            rcases hw with rfl | hw
            · have hle : ((c :: t).take (plainLen (c :: t))).length ≤ t.length + 1 := by rw [List.length_take, List.length_cons]; omega
              show ((c :: t).take (plainLen (c :: t))).toArray.size ≤ t.length + 1
              rw [List.size_toArray]
              exact hle
            · have := ih _ _ (by rw [List.length_drop, List.length_cons]; omega) w hw ht
              rw [List.length_drop, List.length_cons] at this
              omega
theorem line_drop (l : List UInt8) (p q : Nat) : (l.take (p + q)).drop p = (l.drop p).take q := by rw [List.drop_take]; congr 1; omega
/-- A round without words, of parseGo. -/
theorem parseGo_skip {N g p q : Nat} {l : List UInt8} {c : Option CL} {en : Nat} (hne : l.drop p ≠ []) (hq : q = lineLen (l.drop p)) (hw : words ((l.take (p + q)).drop p) p = ([], en)) : parseGo N (g + 1) (l.drop p) p c = parseGo N g (l.drop (p + q + 1)) (p + q + 1) c := by
  rw [parseGo.eq_def]
  simp only
  rw [if_neg hne, ← hq, ← line_drop, hw]
  simp only
  rw [List.drop_drop, Nat.add_assoc]
theorem parseGo_words {N g p q : Nat} {l : List UInt8} {c : Option CL} {x : Wd} {r : List Wd} {en : Nat} (hne : l.drop p ≠ []) (hq : q = lineLen (l.drop p)) (hw : words ((l.take (p + q)).drop p) p = (x :: r, en)) :
    parseGo N (g + 1) (l.drop p) p c = match c with
      | none => (match headLine en (x :: r) with | .error e => .error e | .ok (t, ra) => parseGo N g (l.drop (p + q + 1)) (p + q + 1) (some ⟨t, ra, []⟩))
      | some cl => (match eventLine en cl (x :: r) with | .error e => .error e | .ok ev => parseGo N g (l.drop (p + q + 1)) (p + q + 1) (some { cl with evs := cl.evs ++ [ev] })) := by
  rw [parseGo.eq_def]
  simp only
  rw [if_neg hne, ← hq, ← line_drop, hw]
  simp only
  rw [List.drop_drop, Nat.add_assoc]
  cases c <;> rfl
end Go.Proofs.Cuts
