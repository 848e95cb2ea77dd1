/-
  A text whose lines tell a list that may be is parsed as that list: plain law, no program in sight. Conditions: the text is valid, and not too long.
-/
import Derived.Test.YtgimedhfhpiipaaGreatDoorPWords
namespace Go.Proofs.Cuts
open Go.Lib

theorem bl_ba (l : List UInt8) : bl (ba l) = l := by simp [bl, ba]
theorem ba_bl' (s : ByteArray) : ba (bl s) = s := by simp [bl, ba]
theorem checkEvs_append (d : Int) : ∀ (l r ah : List Ev) (k : Nat), checkEvs d ah (l ++ r) k = none ↔ checkEvs d ah l k = none ∧ checkEvs d (ah ++ l) r (k + l.length) = none
  | [], r, ah, k => by simp [checkEvs]
  | e :: l, r, ah, k => by
    rw [List.cons_append, checkEvs, checkEvs]
    by_cases h : checkEv ah e d = 0
    · rw [if_pos h, if_pos h, checkEvs_append d l r (ah ++ [e]) (k + 1)]
      simp only [List.append_assoc, List.cons_append, List.nil_append, List.length_cons]
      rw [show k + 1 + l.length = k + (l.length + 1) by omega]
    · rw [if_neg h, if_neg h]; simp
/-- What a list that may be is like. -/
structure May (cl : CL) : Prop where
  title : cl.title.size ≤ 100
  valid : validD (bl cl.title) = true
  rate : isRate cl.rate = true
  many : cl.evs.length ≤ 200
  evs : checkEvs (day cl.rate) [] cl.evs 0 = none
theorem may_iff (cl : CL) : check cl = none ↔ May cl := by
  unfold check
  constructor
  · intro h
    by_cases h1 : 100 < cl.title.size
    · rw [if_pos h1] at h; cases h
    rw [if_neg h1] at h
    by_cases h2 : validD (bl cl.title) = false
    · rw [if_pos h2] at h; cases h
    rw [if_neg h2] at h
    by_cases h3 : isRate cl.rate = false
    · rw [if_pos h3] at h; cases h
    rw [if_neg h3] at h
    by_cases h4 : 200 < cl.evs.length
    · rw [if_pos h4] at h; cases h
    rw [if_neg h4] at h
    exact ⟨by omega, by simpa using h2, by simpa using h3, by omega, h⟩
  · intro h
    rw [if_neg (by have := h.title; omega), if_neg (by rw [h.valid]; decide), if_neg (by rw [h.rate]; decide), if_neg (by have := h.many; omega)]
    exact h.evs
theorem May.front {cl : CL} {a b : List Ev} (h : May { cl with evs := a ++ b }) : May { cl with evs := a } :=
  ⟨h.title, h.valid, h.rate, by have := h.many; simp at this ⊢; omega, ((checkEvs_append _ a b [] 0).1 h.evs).1⟩
/-- What an event that may be is like. -/
structure EvMay (ah : List Ev) (e : Ev) (d : Int) : Prop where
  reel : nameOk (bl e.reel) = true
  i0 : 0 ≤ e.i
  io : e.i < e.o
  od : e.o < d
  fades : fadesB ah e = true
  note : e.note.size ≤ 100
  valid : validD (bl e.note) = true
theorem evMay_iff (ah : List Ev) (e : Ev) (d : Int) : checkEv ah e d = 0 ↔ EvMay ah e d := by
  unfold checkEv
  constructor
  · intro h
    by_cases h1 : nameOk (bl e.reel) = false
    · rw [if_pos h1] at h; cases h
    rw [if_neg h1] at h
    by_cases h2 : e.i < 0 ∨ e.o ≤ e.i ∨ d ≤ e.o
    · rw [if_pos h2] at h; cases h
    rw [if_neg h2] at h
    by_cases h3 : fadesB ah e = false
    · rw [if_pos h3] at h; cases h
    rw [if_neg h3] at h
    by_cases h4 : 100 < e.note.size
    · rw [if_pos h4] at h; cases h
    rw [if_neg h4] at h
    by_cases h5 : validD (bl e.note) = false
    · rw [if_pos h5] at h; cases h
    exact ⟨by simpa using h1, by omega, by omega, by omega, by simpa using h3, by omega, by simpa using h5⟩
  · intro h
    rw [if_neg (by rw [h.reel]; decide), if_neg (by have := h.i0; have := h.io; have := h.od; omega), if_neg (by rw [h.fades]; decide), if_neg (by have := h.note; omega), if_neg (by rw [h.valid]; decide)]
theorem May.last {cl : CL} {a : List Ev} {e : Ev} (h : May { cl with evs := a ++ [e] }) : EvMay a e (day cl.rate) := by
  have := ((checkEvs_append _ a [e] [] 0).1 h.evs).2
  rw [checkEvs] at this
  refine (evMay_iff _ _ _).1 ?_
  by_cases h0 : checkEv ([] ++ a) e (day cl.rate) = 0
  · simpa using h0
  · rw [if_neg h0] at this; cases this
theorem fadesB_range {ah : List Ev} {e : Ev} (h : fadesB ah e = true) : 0 ≤ e.fade ∧ e.fade ≤ 100 := by
  unfold fadesB at h
  by_cases h0 : e.fade = 0
  · omega
  · rw [if_neg h0] at h
    by_cases h1 : e.fade < 0 ∨ 100 < e.fade
    · rw [if_pos h1] at h; cases h
    · omega

/-! ### the words that tell -/
def headIts (cl : CL) : List It := [.pl [108, 105, 115, 116], .pl (rateName cl.rate), .txt (bl cl.title)]
def evIts (r : Int) (e : Ev) : List It :=
  (if 0 < e.fade then [.pl [102, 97, 100, 101], .pl (itoa e.fade)] else [.pl [99, 117, 116]]) ++ [.pl (bl e.reel), .pl (nameOf r e.i), .pl (nameOf r e.o)] ++ (if e.note.size = 0 then [] else [.txt (bl e.note)])

theorem next_plainW {en : Int} {w : Wd} {r : List Wd} {s : ByteArray} (h : shp w = (s, false, false)) : next en false (w :: r) = .ok (w, r) ∧ w.s = s := by
  simp only [shp, Prod.mk.injEq] at h
  obtain ⟨h1, h2, h3⟩ := h
  refine ⟨?_, h1⟩
  rw [next, if_neg (by simp [h2, h3]), if_neg (by simp)]
theorem next_textW {en : Int} {w : Wd} {r : List Wd} {s : ByteArray} (h : shp w = (s, true, false)) (hs : s.size ≤ 100) : next en true (w :: r) = .ok (w, r) ∧ w.s = s := by
  simp only [shp, Prod.mk.injEq] at h
  obtain ⟨h1, h2, h3⟩ := h
  refine ⟨?_, h1⟩
  rw [next, if_neg (by simp [h2, h3]), if_neg (by rw [h1]; omega)]
theorem plainW_good {en : Int} {w : Wd} {r : List Wd} {s : ByteArray} {holds : ByteArray → Bool} (h : shp w = (s, false, false)) (hh : holds s = true) : plainW en holds (w :: r) = .ok (w, r) ∧ w.s = s := by
  obtain ⟨h1, h2⟩ := next_plainW (en := en) (r := r) h
  refine ⟨?_, h2⟩
  rw [plainW, h1]
  simp only
  rw [h2, hh]
  rfl
theorem timeW_good {en rt n : Int} {w : Wd} {r : List Wd} {s : ByteArray} (h : shp w = (s, false, false)) (hh : number rt (bl s) = some n) : timeW en rt (w :: r) = .ok (n, w, r) := by
  obtain ⟨h1, h2⟩ := next_plainW (en := en) (r := r) h
  rw [timeW, h1]
  simp only
  rw [h2, hh]
theorem map_cons {l : List Wd} {x : ByteArray × Bool × Bool} {r : List (ByteArray × Bool × Bool)} (h : l.map shp = x :: r) : ∃ w t, l = w :: t ∧ shp w = x ∧ t.map shp = r := by
  cases l with
  | nil => cases h
  | cons w t => simp only [List.map_cons, List.cons.injEq] at h; exact ⟨w, t, rfl, h.1, h.2⟩
theorem map_nil {l : List Wd} (h : l.map shp = []) : l = [] := by simpa using h
theorem rateOf_name {r : Int} (h : isRate r = true) : rateOf (rateName r) = r := by
  rcases isRate_cases h with rfl | rfl | rfl | rfl | rfl | rfl | rfl <;> rfl

theorem headLine_good {en : Int} {l : List Wd} {cl : CL} (hm : May cl) (h : l.map shp = (headIts cl).map It.sh) : headLine en l = .ok (cl.title, cl.rate) := by
  simp only [headIts, List.map_cons, List.map_nil, It.sh] at h
  obtain ⟨a, t, rfl, ha, h⟩ := map_cons h
  obtain ⟨b, t, rfl, hb, h⟩ := map_cons h
  obtain ⟨c, t, rfl, hc, h⟩ := map_cons h
  obtain rfl := map_nil h
  rw [ba_bl'] at hc
  obtain ⟨e1, _⟩ := plainW_good (en := en) (r := [b, c]) (holds := fun s => s == listS) ha (by decide)
  have hr := rateOf_name hm.rate
  have h0 : cl.rate ≠ 0 := by rcases isRate_cases hm.rate with h | h | h | h | h | h | h <;> omega
  obtain ⟨e2, f2⟩ := plainW_good (en := en) (r := [c]) (holds := fun s => decide (rateOf (bl s) ≠ 0)) hb (by rw [bl_ba, hr]; simpa using h0)
  obtain ⟨e3, f3⟩ := next_textW (en := en) (r := []) hc hm.title
  rw [headLine, e1]
  simp only
  rw [e2]
  simp only
  rw [e3]
  simp only [doneW]
  rw [f2, f3, bl_ba, hr]
set_option maxRecDepth 100000 in
theorem isFade_itoa : ∀ n : Fin 100, isFade (itoa ((n.val : Int) + 1)) = true ∧ fadeVal (itoa ((n.val : Int) + 1)) = (n.val : Int) + 1 := by decide +kernel
theorem isFade_good {n : Int} (h0 : 1 ≤ n) (h1 : n ≤ 100) : isFade (itoa n) = true ∧ fadeVal (itoa n) = n := by
  have := isFade_itoa ⟨(n - 1).toNat, by omega⟩
  have e : (((n - 1).toNat : Nat) : Int) + 1 = n := by omega
  simp only [e] at this
  exact this
set_option maxRecDepth 100000 in
theorem itoa_bytes : ∀ n : Fin 100, (itoa ((n.val : Int) + 1)).all (fun c => 48 ≤ c.toNat && c.toNat ≤ 57) = true ∧ itoa ((n.val : Int) + 1) ≠ [] := by decide +kernel
theorem itoa_dig {n : Int} (h0 : 1 ≤ n) (h1 : n ≤ 100) : (∀ c ∈ itoa n, 48 ≤ c.toNat ∧ c.toNat ≤ 57) ∧ itoa n ≠ [] := by
  have := itoa_bytes ⟨(n - 1).toNat, by omega⟩
  have e : (((n - 1).toNat : Nat) : Int) + 1 = n := by omega
  simp only [e, List.all_eq_true, Bool.and_eq_true, decide_eq_true_eq] at this
  exact this

def fadeIts (e : Ev) : List It := if 0 < e.fade then [.pl [102, 97, 100, 101], .pl (itoa e.fade)] else [.pl [99, 117, 116]]
def tailIts (r : Int) (e : Ev) : List It := [.pl (bl e.reel), .pl (nameOf r e.i), .pl (nameOf r e.o)] ++ (if e.note.size = 0 then [] else [.txt (bl e.note)])
theorem evIts_parts (r : Int) (e : Ev) : evIts r e = fadeIts e ++ tailIts r e := by rw [evIts, fadeIts, tailIts, List.append_assoc]

def fadeP (end_ : Int) (first : Wd) (l1 : List Wd) : Except Err (Int × List Wd) :=
  if first.s == fadeS then (match plainW end_ (fun s => isFade (bl s)) l1 with | .error e => .error e | .ok (n, r) => .ok (fadeVal (bl n.s), r)) else .ok (0, l1)
def noteP (end_ : Int) (l5 : List Wd) : Except Err (ByteArray × List Wd) :=
  match l5 with | [] => .ok (ba [], []) | _ :: _ => (match next end_ true l5 with | .error e => .error e | .ok (n, r) => .ok (n.s, r))
theorem eventLine_p (end_ : Int) (cl : CL) (l : List Wd) (h : cl.evs.length ≠ 200) : eventLine end_ cl l =
    match plainW end_ (fun s => s == cutS || s == fadeS) l with
    | .error e => .error e
    | .ok (first, l1) =>
      match fadeP end_ first l1 with
      | .error e => .error e
      | .ok (fade, l2) =>
        match plainW end_ (fun s => nameOk (bl s)) l2 with
        | .error e => .error e
        | .ok (name, l3) =>
          match timeW end_ cl.rate l3 with
          | .error e => .error e
          | .ok (i, _, l4) =>
            match timeW end_ cl.rate l4 with
            | .error e => .error e
            | .ok (o, out, l5) =>
              match noteP end_ l5 with
              | .error e => .error e
              | .ok (note, l6) =>
                match doneW l6 with
                | some e => .error e
                | none =>
                  match check { cl with evs := cl.evs ++ [⟨name.s, i, o, fade, note⟩] } with
                  | none => .ok ⟨name.s, i, o, fade, note⟩
                  | some (_, e) => if e = 194 then .error (out.at_, 194) else .error (first.at_, 195) := by
  rw [eventLine.eq_def, if_neg h]
  rfl
theorem note_good {en : Int} {l : List Wd} {note : ByteArray} (hn : note.size ≤ 100) (h : l.map shp = ((if note.size = 0 then [] else [.txt (bl note)] : List It)).map It.sh) : noteP en l = .ok (note, []) := by
  unfold noteP
  by_cases h0 : note.size = 0
  · rw [if_pos h0] at h
    obtain rfl := map_nil h
    have : note = ba [] := by
      rw [← ba_bl' note, show bl note = [] from List.eq_nil_of_length_eq_zero (by simpa [bl] using h0)]
    simp only [this]
  · rw [if_neg h0] at h
    simp only [List.map_cons, List.map_nil, It.sh, ba_bl'] at h
    obtain ⟨w, t, rfl, hw, h⟩ := map_cons h
    obtain rfl := map_nil h
    obtain ⟨e1, e2⟩ := next_textW (en := en) (r := []) hw hn
    simp only [e1, e2]
/-- The event's line, behind its Fade. -/
theorem eventLine_good {en : Int} {l : List Wd} {cl : CL} {ev : Ev} (hm : May { cl with evs := cl.evs ++ [ev] }) (h : l.map shp = (evIts cl.rate ev).map It.sh) : eventLine en cl l = .ok ev := by
  have hE := hm.last
  have hmany := hm.many
  simp only [List.length_append, List.length_cons, List.length_nil] at hmany
  have hck : check { cl with evs := cl.evs ++ [ev] } = none := (may_iff _).2 hm
  have hfr := fadesB_range hE.fades
  have hr : isRate cl.rate = true := hm.rate
  rw [evIts_parts, List.map_append] at h
  have key : ∃ (first : Wd) (l1 l2 : List Wd), l2.map shp = (tailIts cl.rate ev).map It.sh ∧ plainW en (fun s => s == cutS || s == fadeS) l = .ok (first, l1) ∧
      fadeP en first l1 = .ok (ev.fade, l2) := by
    unfold fadeIts at h
    unfold fadeP
    by_cases h0 : 0 < ev.fade
    · rw [if_pos h0] at h
      simp only [List.map_cons, List.map_nil, It.sh, List.cons_append, List.nil_append] at h
      obtain ⟨a, t, rfl, ha, h⟩ := map_cons h
      obtain ⟨b, t, rfl, hb, h⟩ := map_cons h
      obtain ⟨e1, f1⟩ := plainW_good (en := en) (r := b :: t) (holds := fun s => s == cutS || s == fadeS) ha (by decide)
      obtain ⟨g1, g2⟩ := isFade_good (n := ev.fade) (by omega) (by omega)
      obtain ⟨e2, f2⟩ := plainW_good (en := en) (r := t) (holds := fun s => isFade (bl s)) hb (by rw [bl_ba, g1])
      refine ⟨a, b :: t, t, h, e1, ?_⟩
      rw [f1, if_pos (by decide), e2]
      simp only
      rw [f2, bl_ba, g2]
    · rw [if_neg h0] at h
      simp only [List.map_cons, List.map_nil, It.sh, List.cons_append, List.nil_append] at h
      obtain ⟨a, t, rfl, ha, h⟩ := map_cons h
      obtain ⟨e1, f1⟩ := plainW_good (en := en) (r := t) (holds := fun s => s == cutS || s == fadeS) ha (by decide)
      refine ⟨a, t, t, h, e1, ?_⟩
      rw [f1, if_neg (by decide), show ev.fade = 0 by omega]
  obtain ⟨first, l1, l2, ht, e1, e2⟩ := key
  rw [eventLine_p _ _ _ (by omega), e1]
  simp only
  rw [e2]
  simp only
  simp only [tailIts, List.map_cons, It.sh, List.cons_append, List.nil_append, ba_bl'] at ht
  obtain ⟨a, t, rfl, ha, ht⟩ := map_cons ht
  obtain ⟨b, t, rfl, hb, ht⟩ := map_cons ht
  obtain ⟨c, t, rfl, hc, ht⟩ := map_cons ht
  obtain ⟨e3, f3⟩ := plainW_good (en := en) (r := b :: c :: t) (holds := fun s => nameOk (bl s)) ha hE.reel
  have e4 := timeW_good (en := en) (rt := cl.rate) (n := ev.i) (r := c :: t) hb (by rw [bl_ba]; exact number_nameOf _ _ hr hE.i0 (by have := hE.io; have := hE.od; omega))
  have e5 := timeW_good (en := en) (rt := cl.rate) (n := ev.o) (r := t) hc (by rw [bl_ba]; exact number_nameOf _ _ hr (by have := hE.i0; have := hE.io; omega) hE.od)
  have e6 := note_good (en := en) (l := t) hE.note ht
  rw [e3]
  simp only
  rw [e4]
  simp only
  rw [e5]
  simp only
  rw [e6]
  simp only [doneW]
  rw [f3, hck]

/-! ### lines -/
theorem lineLen_app : ∀ (l r : List UInt8), (∀ c ∈ l, c ≠ 10) → lineLen (l ++ 10 :: r) = l.length := by
  intro l r h
  unfold lineLen
  rw [takeWhile_app l (10 :: r) _ (fun c hc => by simpa using h c hc) (.inr ⟨10, r, rfl, rfl⟩)]
def textOf (ls : List (List UInt8)) : List UInt8 := ls.flatMap fun l => l ++ [10]
theorem textOf_cons (l : List UInt8) (ls : List (List UInt8)) : textOf (l :: ls) = l ++ 10 :: textOf ls := by simp [textOf]
theorem textOf_append (a b : List (List UInt8)) : textOf (a ++ b) = textOf a ++ textOf b := by simp [textOf]
/-- Lines that tell, behind what is told already, this list. -/
inductive Told : Option CL → List (List UInt8) → CL → Prop
  | done (c : CL) : Told (some c) [] c
  | skip (c : Option CL) (l : List UInt8) (ls : List (List UInt8)) (d : CL) : (∀ b ∈ l, b ≠ 10) → (∀ p, (words l p).1 = []) → Told c ls d → Told c (l :: ls) d
  | head (l : List UInt8) (ls : List (List UInt8)) (c d : CL) : (∀ b ∈ l, b ≠ 10) → (∀ p, (words l p).1.map shp = (headIts c).map It.sh) → May c → Told (some { c with evs := [] }) ls d → Told none (l :: ls) d
  | event (l : List UInt8) (ls : List (List UInt8)) (c d : CL) (e : Ev) : (∀ b ∈ l, b ≠ 10) → (∀ p, (words l p).1.map shp = (evIts c.rate e).map It.sh) → May { c with evs := c.evs ++ [e] } → Told (some { c with evs := c.evs ++ [e] }) ls d → Told (some c) (l :: ls) d
theorem told_parse {c : Option CL} {ls : List (List UInt8)} {d : CL} (h : Told c ls d) : ∀ (N f p : Nat), (textOf ls).length < f → parseGo N f (textOf ls) p c = .ok d := by
  induction h with
  | done c =>
    intro N f p hf
    obtain ⟨f, rfl⟩ : ∃ g, f = g + 1 := ⟨f - 1, by omega⟩
    show parseGo N (f + 1) [] p (some c) = _
    simp [parseGo]
  | skip c l ls d h10 hw _ ih =>
    intro N f p hf
    obtain ⟨f, rfl⟩ : ∃ g, f = g + 1 := ⟨f - 1, by omega⟩
    rw [textOf_cons] at hf ⊢
    simp only [List.length_append, List.length_cons] at hf
    rw [parseGo.eq_def]
    simp only
    rw [if_neg (by simp)]
    rw [lineLen_app l _ h10, List.take_left, hw p, show (l ++ 10 :: textOf ls).drop (l.length + 1) = textOf ls by simp [← List.drop_drop]]
    exact ih N f _ (by omega)
  | head l ls c d h10 hw hm _ ih =>
    intro N f p hf
    obtain ⟨f, rfl⟩ : ∃ g, f = g + 1 := ⟨f - 1, by omega⟩
    rw [textOf_cons] at hf ⊢
    simp only [List.length_append, List.length_cons] at hf
    rw [parseGo.eq_def]
    simp only
    rw [if_neg (by simp)]
    have hwp := hw p
    rw [lineLen_app l _ h10, List.take_left, show (l ++ 10 :: textOf ls).drop (l.length + 1) = textOf ls by simp [← List.drop_drop]]
    obtain ⟨w, t, e, _, _⟩ := map_cons hwp
    rw [e] at hwp ⊢
    simp only
    rw [headLine_good hm hwp]
    exact ih N f _ (by omega)
  | event l ls c d e h10 hw hm _ ih =>
    intro N f p hf
    obtain ⟨f, rfl⟩ : ∃ g, f = g + 1 := ⟨f - 1, by omega⟩
    rw [textOf_cons] at hf ⊢
    simp only [List.length_append, List.length_cons] at hf
    rw [parseGo.eq_def]
    simp only
    rw [if_neg (by simp)]
    have hwp := hw p
    rw [lineLen_app l _ h10, List.take_left, show (l ++ 10 :: textOf ls).drop (l.length + 1) = textOf ls by simp [← List.drop_drop]]
    have hne : ∃ x r, (evIts c.rate e).map It.sh = x :: r := by
      rw [evIts_parts, fadeIts]
      by_cases h0 : 0 < e.fade
      · rw [if_pos h0]; exact ⟨_, _, rfl⟩
      · rw [if_neg h0]; exact ⟨_, _, rfl⟩
    obtain ⟨x, r, hx⟩ := hne
    obtain ⟨w, t, e', _, _⟩ := map_cons (hwp.trans hx)
    rw [e'] at hwp ⊢
    simp only
    rw [eventLine_good hm hwp]
    exact ih N f _ (by omega)
theorem told_all {ls : List (List UInt8)} {d : CL} {s : ByteArray} (h : Told none ls d) (hs : bl s = textOf ls) (hv : Vt (textOf ls)) (hl : s.size ≤ 20000) : parse s = .ok d := by
  rw [parse, if_neg (by omega), hs, (unruly_none _).2 hv]
  simp only
  refine told_parse h _ _ _ ?_
  rw [← hs]
  simp [bl]
end Go.Proofs.Cuts
