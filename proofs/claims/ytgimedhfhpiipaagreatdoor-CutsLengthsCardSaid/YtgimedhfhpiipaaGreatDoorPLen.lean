/-
  How many frames a list makes, event by event; a Fade that is one too many is refused there: plain law, no program in sight. Condition: the list may be.
-/
import Derived.Test.YtgimedhfhpiipaaGreatDoorPParse
namespace Go.Proofs.Cuts
open Go.Lib

def headFade : List Ev → Int
  | [] => 0
  | e :: _ => e.fade
/-- An event's frames less the next one's Fade. -/
def sumX : List Ev → Int
  | [] => 0
  | e :: r => e.o - e.i - headFade r + sumX r
theorem sumX_len : ∀ l : List Ev, sumX l = lenSum l + headFade l
  | [] => rfl
  | e :: r => by rw [sumX, lenSum, sumX_len r, headFade]; omega
theorem checkEvs_skip (d : Int) : ∀ (l r ah : List Ev) (k : Nat), checkEvs d ah l k = none → checkEvs d ah (l ++ r) k = checkEvs d (ah ++ l) r (k + l.length)
  | [], r, ah, k, _ => by simp
  | e :: l, r, ah, k, h => by
    rw [checkEvs] at h
    by_cases h0 : checkEv ah e d = 0
    · rw [if_pos h0] at h
      rw [List.cons_append, checkEvs, if_pos h0, checkEvs_skip d l r (ah ++ [e]) (k + 1) h]
      simp only [List.append_assoc, List.cons_append, List.nil_append, List.length_cons]
      rw [show k + 1 + l.length = k + (l.length + 1) by omega]
    · rw [if_neg h0] at h; cases h
theorem May.at_ {l : CL} (hm : May l) {a b : List Ev} {e : Ev} (h : l.evs = a ++ e :: b) : EvMay a e (day l.rate) := by
  have : May { l with evs := (a ++ [e]) ++ b } := by
    have e2 : { l with evs := (a ++ [e]) ++ b } = l := by rw [List.append_assoc]; simp only [List.cons_append, List.nil_append]; rw [← h]
    rw [e2]; exact hm
  exact this.front.last
theorem fadesB_first {e : Ev} (h : fadesB [] e = true) : e.fade = 0 := by
  unfold fadesB at h
  by_cases h0 : e.fade = 0
  · exact h0
  · rw [if_neg h0] at h
    split at h
    · cases h
    · simp at h
theorem headFade_zero {l : CL} (hm : May l) : headFade l.evs = 0 := by
  cases he : l.evs with
  | nil => rfl
  | cons e r => exact fadesB_first (hm.at_ (a := []) (by rw [he]; rfl)).fades
theorem fadesB_last {a : List Ev} {p e : Ev} (h : fadesB (a ++ [p]) e = true) : e.fade = 0 ∨ (e.fade ≤ e.o - e.i ∧ e.fade ≤ p.o - p.i - p.fade) := by
  unfold fadesB at h
  by_cases h0 : e.fade = 0
  · exact .inl h0
  · rw [if_neg h0] at h
    split at h
    · cases h
    · simp only [List.getLast?_concat, Bool.and_eq_true, decide_eq_true_eq] at h
      exact .inr h
theorem fadesB_own {a : List Ev} {e : Ev} (h : fadesB a e = true) : e.fade = 0 ∨ e.fade ≤ e.o - e.i := by
  rcases List.eq_nil_or_concat a with rfl | ⟨a', p, rfl⟩
  · exact .inl (fadesB_first h)
  · rw [List.concat_eq_append] at h
    rcases fadesB_last h with h | h
    · exact .inl h
    · exact .inr h.1
/-- Event by event: not fewer frames than its Fade, less the next one's. -/
theorem each_frames {l : CL} (hm : May l) {a b : List Ev} {e : Ev} (h : l.evs = a ++ e :: b) : e.fade ≤ e.o - e.i - headFade b ∧ 0 ≤ e.o - e.i - headFade b ∧ (b = [] → 1 ≤ e.o - e.i) := by
  have hE := hm.at_ h
  have hf := fadesB_range hE.fades
  have hio := hE.io
  have hown := fadesB_own hE.fades
  cases b with
  | nil => simp only [headFade]; omega
  | cons x r =>
    have hX := hm.at_ (a := a ++ [e]) (e := x) (b := r) (by rw [h]; simp)
    have hx := fadesB_range hX.fades
    have := fadesB_last hX.fades
    simp only [headFade, reduceCtorEq, false_implies, and_true]
    omega
theorem sumX_pos {l : CL} (hm : May l) : ∀ (b a : List Ev), l.evs = a ++ b → 0 ≤ sumX b ∧ (b ≠ [] → 1 ≤ sumX b)
  | [], a, _ => ⟨by simp [sumX], fun h => absurd rfl h⟩
  | e :: b, a, h => by
    have h1 := each_frames hm h
    have h2 := sumX_pos hm b (a ++ [e]) (by rw [h]; simp)
    rw [sumX]
    refine ⟨by omega, fun _ => ?_⟩
    by_cases hb : b = []
    · have := h1.2.2 hb
      subst hb
      simp only [headFade, sumX] at *
      omega
    · have := h2.2 hb
      omega
theorem lenSum_zero {l : CL} (hm : May l) : (lenSum l.evs = 0) ↔ l.evs.length = 0 := by
  have h1 := sumX_len l.evs
  have h2 := headFade_zero hm
  have h3 := sumX_pos hm l.evs [] rfl
  constructor
  · intro h
    by_cases hb : l.evs = []
    · rw [hb]; rfl
    · have := h3.2 hb; omega
  · intro h
    have hb : l.evs = [] := List.eq_nil_of_length_eq_zero h
    rw [hb]; rfl
/-- A Fade that is one too many is refused there. -/
theorem check_over {l : CL} (hm : May l) {a b : List Ev} {p e : Ev} (h : l.evs = a ++ p :: e :: b) (most : Int) (hmost : most = min (min 100 (e.o - e.i)) (p.o - p.i - p.fade)) :
    check { l with evs := a ++ p :: { e with fade := most + 1 } :: b } = some (((a.length + 1 : Nat) : Int), 195) ∧ 0 ≤ most ∧ most ≤ 100 := by
  have hP := hm.at_ (a := a) (e := p) (b := e :: b) h
  have hE := hm.at_ (a := a ++ [p]) (e := e) (b := b) (by rw [h]; simp)
  have hp := each_frames hm (a := a) (e := p) (b := e :: b) h
  have hpf := fadesB_range hP.fades
  have hown := fadesB_own hP.fades
  have hio := hE.io
  have hpio := hP.io
  have h0 : 0 ≤ most ∧ most ≤ 100 := by rw [hmost]; omega
  refine ⟨?_, h0⟩
  have hlen : a.length + 1 + 1 + b.length ≤ 200 := by have := hm.many; rw [h] at this; simp at this; omega
  unfold check
  simp only
  rw [if_neg (by have := hm.title; omega), if_neg (by rw [hm.valid]; decide), if_neg (by rw [hm.rate]; decide), if_neg (by simp; omega)]
  have hfront : checkEvs (day l.rate) [] (a ++ [p]) 0 = none := by
    have := hm.evs
    rw [h, show a ++ p :: e :: b = (a ++ [p]) ++ (e :: b) by simp] at this
    exact ((checkEvs_append _ (a ++ [p]) (e :: b) [] 0).1 this).1
  rw [show a ++ p :: { e with fade := most + 1 } :: b = (a ++ [p]) ++ ({ e with fade := most + 1 } :: b) by simp, checkEvs_skip _ _ _ _ _ hfront]
  have hck : checkEv ([] ++ (a ++ [p])) { e with fade := most + 1 } (day l.rate) = 195 := by
    unfold checkEv
    simp only
    rw [if_neg (by rw [hE.reel]; decide), if_neg (by have := hE.i0; have := hE.od; omega), if_pos]
    unfold fadesB
    simp only
    rw [if_neg (by omega)]
    split
    · rfl
    · simp only [List.nil_append, List.getLast?_concat, Bool.and_eq_false_iff, decide_eq_false_iff_not]
      omega
  rw [checkEvs, if_neg (by rw [hck]; decide), hck]
  simp
end Go.Proofs.Cuts
