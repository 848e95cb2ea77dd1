/-
  CutsBlanks returns true. Conditions: the listed variables lie in the world; the list's events and the numbers can be read.
-/
import Derived.Test.YtgimedhfhpiipaaGreatDoorSame
import Derived.Test.YtgimedhfhpiipaaGreatDoorAlive
import Derived.Test.YtgimedhfhpiipaaGreatDoorFilled
namespace Go.Proofs.Cuts
open Go.RowKit

theorem own_evs' {w : World} {B : Nat} {v : Value} {l : List Ev} (h : w.ownsRow B 51 5 v l.length (evsCells l)) : ∃ A c, v = .slice A l.length c ∧ l.length ≤ c ∧ EvsAt w A l := by
  rcases Joins.ownsRow_forms h with ⟨rfl, h0⟩ | ⟨g, cap, rfl⟩
  · exact ⟨none, 0, by rw [h0], by omega, .inl (List.eq_nil_of_length_eq_zero h0)⟩
  · exact ⟨some ⟨g, 0, none⟩, cap, rfl, own_cap h, evsAt_own h⟩
/-- What Parse answers of a text that is read as this list. -/
theorem parse_to' (d : CL) (s : ByteArray) (w : World) (hL : Laid w) (hp : parse s = .ok d) :
    Calls Tryz.prog 9 #[.string s] w fun e w' => ∃ A c, e = .returned (.tuple #[.agg #[.string d.title, .int .i64 d.rate, .slice A d.evs.length c], .nilIface]) ∧ d.evs.length ≤ c ∧ EvsAt w' A d.evs ∧ Gr w w' := by
  have h := parse_any s w hL
  rw [hp] at h
  refine h.mono ?_
  rintro e w' ⟨⟨v, rfl, hown⟩, hg⟩
  obtain ⟨A, c, rfl, hc, hS⟩ := own_evs' hown
  exact ⟨A, c, rfl, hc, hS, hg⟩
theorem esc_len : ∀ l : List UInt8, (esc l).length ≤ 2 * l.length
  | [] => by simp [esc]
  | c :: t => by
    have := esc_len t
    rw [esc]
    repeat' split
    all_goals simp only [List.length_cons]; omega
theorem itoa_len {n : Int} (h0 : 1 ≤ n) (h1 : n ≤ 100) : (Lib.itoa n).length ≤ 3 := by
  have key : ∀ n : Fin 100, (Lib.itoa ((n.val : Int) + 1)).length ≤ 3 := by decide +kernel
  have := key ⟨(n - 1).toNat, by omega⟩
  have e : (((n - 1).toNat : Nat) : Int) + 1 = n := by omega
  simp only [e] at this
  exact this
theorem txt_len {s : ByteArray} (h : s.size ≤ 100) : (It.txt (bl s)).text.length ≤ 210 := by
  have := esc_len (bl s)
  rw [bl_length] at this
  simp only [It.text, List.length_cons, List.length_append, List.length_nil]
  omega
theorem rows_may {l : CL} (hm : May l) : ∀ r ∈ headIts l :: l.evs.map (evIts l.rate), RowMay r := by
  intro r hr
  rcases List.mem_cons.1 hr with rfl | hr
  · refine ⟨by simp [headIts], by simp [headIts], fun x hx => ⟨headIts_ok hm x hx, ?_⟩⟩
    simp only [headIts, List.mem_cons, List.not_mem_nil, or_false] at hx
    rcases hx with rfl | rfl | rfl
    · decide
    · show (rateName l.rate).length ≤ 210
      unfold rateName; repeat' split
      all_goals decide
    · exact txt_len hm.title
  · obtain ⟨e, he, rfl⟩ := List.mem_map.1 hr
    obtain ⟨ah, h⟩ := evMay_all hm e he
    have hf := fadesB_range h.fades
    have hreel : (bl e.reel).length ≤ 16 := by
      have := h.reel
      simp only [nameOk, Bool.and_eq_true, decide_eq_true_eq] at this
      exact this.2
    refine ⟨evIts_ne _ _, ?_, fun x hx => ⟨evIts_ok hm.rate h x hx, ?_⟩⟩
    · unfold evIts
      split <;> split <;> simp
    · simp only [evIts, List.append_assoc, List.mem_append, List.mem_cons, List.not_mem_nil, or_false] at hx
      rcases hx with hx | (rfl | rfl | rfl) | hx
      · by_cases hp : 0 < e.fade
        · rw [if_pos hp] at hx
          simp only [List.mem_cons, List.not_mem_nil, or_false] at hx
          rcases hx with rfl | rfl
          · decide
          · have := itoa_len (n := e.fade) (by omega) (by omega)
            show (Lib.itoa e.fade).length ≤ 210
            omega
        · rw [if_neg hp] at hx
          simp only [List.mem_cons, List.not_mem_nil, or_false] at hx
          subst hx
          decide
      · show (bl e.reel).length ≤ 210
        omega
      · show (nameOf l.rate e.i).length ≤ 210
        rw [show (nameOf l.rate e.i).length = 11 from rfl]; omega
      · show (nameOf l.rate e.o).length ≤ 210
        rw [show (nameOf l.rate e.o).length = 11 from rfl]; omega
      · by_cases hp : e.note.size = 0
        · rw [if_pos hp] at hx; cases hx
        · rw [if_neg hp] at hx
          simp only [List.mem_cons, List.not_mem_nil, or_false] at hx
          subst hx
          exact txt_len h.note
/-- What is laid of a list's words is read as that list. -/
theorem laid_parse {l : CL} (hm : May l) {s : ByteArray} (h : LaidText (headIts l :: l.evs.map (evIts l.rate)) (bl s)) (hs : s.size ≤ 20000) : parse s = .ok l := by
  obtain ⟨rs, h1, h2, h3⟩ := h
  cases rs with
  | nil => simp at h1
  | cons hd rs =>
    simp only [List.map_cons, List.cons.injEq] at h1
    exact parse_rows l hd rs hm (h2 hd (by simp)) (fun x hx => h2 x (by simp [hx])) h1.1 h1.2 s (by rw [h3, List.flatMap_cons]) hs

theorem blanks_bad (l : CL) (A A' : Option Addr) (c m c' : Nat) (w : World) (k e : Int) (hck : check l = some (k, e)) (hL : Laid w) (hc : l.evs.length ≤ c) (hS : EvsAt w A l.evs) (hsz : ∀ e ∈ l.evs, e.reel.size ≤ maxLen ∧ e.note.size ≤ maxLen) :
    Calls Tryz.prog 5 #[.agg #[.string l.title, .int .i64 l.rate, .slice A l.evs.length c], .slice A' m c'] w fun r w' => r = .returned (.bool true) ∧ Gr w w' := by
  have hg0 := (Gr.refl w).alloc (.cells #[.string l.title, .int .i64 l.rate, .slice A l.evs.length c] 30)
  have Hchk := Lib.hid (fun w1 (g : Gr w w1) => check_any l A c w1 (hL.grow g) hc (hS.grow g) hsz)
  have Hal := Lib.hid (alive_any _ (hL.grow hg0))
  rw [hck] at Hchk
  have Hb := Lib.hid (heap_new w (.cells #[.string l.title, .int .i64 l.rate, .slice A l.evs.length c] 30))
  have Hg := Lib.hid hg0
  clear hg0 hck hL hc hS hsz
  obtain ⟨title, rate, evs⟩ := l
  obtain ⟨n, hn⟩ : ∃ n, evs.length = n := ⟨_, rfl⟩
  simp only [hn] at Hchk Hg Hal Hb ⊢
  clear hn
  go_enter Tryz.func5, Tryz.ntmps5
  go_wp2_with fail
  refine Hal.out.mono ?_
  rintro r w1 ⟨rfl, hg1⟩
  have hb1 := (hg1.below.block _ (Array.getElem?_eq_some_iff.1 Hb.out).1).trans Hb.out
  obtain ⟨c0, c1, c2, cf⟩ := cells3 hb1
  have HG1 := Lib.hid (Hg.out.trans hg1)
  clear hg1 hb1
  go_wp2_with fail
  refine (Hchk.out _ HG1.out).mono ?_
  rintro r w3 ⟨⟨v, rfl, hv⟩, hg3⟩
  obtain ⟨b', rfl, hb, hh⟩ := hv
  have HG3 := Lib.hid (HG1.out.trans hg3)
  clear hg3 hb hh c0 c1 c2 cf
  go_wp2
  go_ret
  exact ⟨rfl, HG3.out⟩
set_option maxRecDepth 100000 in
set_option maxHeartbeats 2000000 in
theorem blanks_good (l : CL) (A A' : Option Addr) (c m c' : Nat) (f : Nat → Int) (w : World) (hm : May l) (hL : Laid w) (hc : l.evs.length ≤ c) (hS : EvsAt w A l.evs) (hsz : ∀ e ∈ l.evs, e.reel.size ≤ maxLen ∧ e.note.size ≤ maxLen) (hF : IntsAt w A' m f) (hmm : m ≤ maxLen) :
    Calls Tryz.prog 5 #[.agg #[.string l.title, .int .i64 l.rate, .slice A l.evs.length c], .slice A' m c'] w fun r w' => r = .returned (.bool true) ∧ Gr w w' := by
  have hg0 := (Gr.refl w).alloc (.cells #[.string l.title, .int .i64 l.rate, .slice A l.evs.length c] 30)
  have Hchk := Lib.hid (fun w1 (g : Gr w w1) => check_any l A c w1 (hL.grow g) hc (hS.grow g) hsz)
  have Hlines := Lib.hid (fun w1 (g : Gr w w1) => lines_any l A c w1 hm (hS.grow g))
  have Hfill := Lib.hid (fun w0 w1 v us (g : Gr w w1) (hI : LInv w0 w1 v (headIts l :: l.evs.map (evIts l.rate)) us) => filled_any w0 w1 v _ us A' m c' f hI (hF.grow g) hmm (by simp) (by have := hm.many; simp; omega) (rows_may hm))
  have Hparse := Lib.hid (fun s w1 (g : Gr w w1) (h : LaidText (headIts l :: l.evs.map (evIts l.rate)) (bl s)) (hs : s.size ≤ 20000) => parse_to' l s w1 (hL.grow g) (laid_parse hm h hs))
  have Hsame := Lib.hid (fun A' c' w1 (g : Gr w w1) (hS' : EvsAt w1 A' l.evs) => same_eq l A' A c' c w1 (by have := hm.many; omega) hS' (hS.grow g))
  have Hal := Lib.hid (alive_any _ (hL.grow hg0))
  rw [(may_iff l).2 hm] at Hchk
  have Hb := Lib.hid (heap_new w (.cells #[.string l.title, .int .i64 l.rate, .slice A l.evs.length c] 30))
  have Hg := Lib.hid hg0
  obtain ⟨rows, hrows⟩ : ∃ rows, headIts l :: l.evs.map (evIts l.rate) = rows := ⟨_, rfl⟩
  simp only [hrows] at Hlines Hfill Hparse
  clear hg0 hL hc hS hsz hF hmm hm hrows
  obtain ⟨title, rate, evs⟩ := l
  obtain ⟨n, hn⟩ : ∃ n, evs.length = n := ⟨_, rfl⟩
  simp only [hn] at Hchk Hg Hal Hb Hlines Hparse Hsame ⊢
  clear hn
  go_enter Tryz.func5, Tryz.ntmps5
  go_wp2_with fail
  refine Hal.out.mono ?_
  rintro r w1 ⟨rfl, hg1⟩
  have hb1 := (hg1.below.block _ (Array.getElem?_eq_some_iff.1 Hb.out).1).trans Hb.out
  obtain ⟨c0, c1, c2, cf⟩ := cells3 hb1
  have HG1 := Lib.hid (Hg.out.trans hg1)
  have Hb1 := Lib.hid hb1
  clear hg1 hb1
  go_wp2_with fail
  refine (Hchk.out _ HG1.out).mono ?_
  rintro r w2 ⟨⟨v, rfl, hv⟩, hg2⟩
  obtain rfl : v = .nilIface := hv
  have hb2 := (hg2.below.block _ (Array.getElem?_eq_some_iff.1 Hb1.out).1).trans Hb1.out
  have HG2 := Lib.hid (HG1.out.trans hg2)
  have Hb2 := Lib.hid hb2
  clear c0 c1 c2 cf hg2
  obtain ⟨c0, c1, c2, cf⟩ := cells3 hb2
  clear hb2
  go_wp2_with fail
  refine (Hlines.out _ HG2.out).mono ?_
  rintro r w3 ⟨⟨v, us, rfl, hI⟩, hg3⟩
  have hb3 := (hg3.below.block _ (Array.getElem?_eq_some_iff.1 Hb2.out).1).trans Hb2.out
  have HG3 := Lib.hid (HG2.out.trans hg3)
  have Hb3 := Lib.hid hb3
  have HI := Lib.hid hI
  clear c0 c1 c2 cf hg3 hb3 hI
  go_wp2_with fail
  refine (Hfill.out _ _ _ _ HG3.out HI.out).mono ?_
  rintro r w4 ⟨⟨s, rfl, hs⟩, hg4⟩
  have hb4 := (hg4.below.block _ (Array.getElem?_eq_some_iff.1 Hb3.out).1).trans Hb3.out
  have HG4 := Lib.hid (HG3.out.trans hg4)
  have Hb4 := Lib.hid hb4
  have Hs := Lib.hid hs
  clear hg4 hb4 hs
  by_cases hlong : 20000 < s.size
  · go_wp2
    go_ret
    exact ⟨rfl, HG4.out⟩
  · go_wp2_with fail
    refine (Hparse.out s _ HG4.out Hs.out (by omega)).mono ?_
    rintro r w5 ⟨A5, c5, rfl, hc5, hS5, hg5⟩
    have hg5' := (Gr.refl w5).alloc (.cells #[.string title, .int .i64 rate, .slice A5 n c5] 30)
    have hm5 := heap_new w5 (.cells #[.string title, .int .i64 rate, .slice A5 n c5] 30)
    have hb5 := heap_old ((hg5.below.block _ (Array.getElem?_eq_some_iff.1 Hb4.out).1).trans Hb4.out) (.cells #[.string title, .int .i64 rate, .slice A5 n c5] 30)
    obtain ⟨c0, c1, c2, cf⟩ := cells3 hb5
    obtain ⟨d0, d1, d2, df⟩ := cells3 hm5
    have HG5 := Lib.hid ((HG4.out.trans hg5).trans hg5')
    have HS5 := Lib.hid (hS5.grow hg5')
    clear hg5 hg5' hb5 hm5 hS5
    go_wp2_with fail
    refine (Hsame.out A5 c5 _ HG5.out HS5.out).mono ?_
    rintro r w6 ⟨rfl, hg6⟩
    have HG6 := Lib.hid (HG5.out.trans hg6)
    clear hg6
    go_wp2
    go_ret
    exact ⟨rfl, HG6.out⟩
theorem blanks_any (l : CL) (A A' : Option Addr) (c m c' : Nat) (f : Nat → Int) (w : World) (hL : Laid w) (hc : l.evs.length ≤ c) (hS : EvsAt w A l.evs) (hsz : ∀ e ∈ l.evs, e.reel.size ≤ maxLen ∧ e.note.size ≤ maxLen) (hF : IntsAt w A' m f) (hmm : m ≤ maxLen) :
    Calls Tryz.prog 5 #[.agg #[.string l.title, .int .i64 l.rate, .slice A l.evs.length c], .slice A' m c'] w fun r w' => r = .returned (.bool true) ∧ Gr w w' := by
  cases h : check l with
  | none => exact blanks_good l A A' c m c' f w ((may_iff l).1 h) hL hc hS hsz hF hmm
  | some p => obtain ⟨k, e⟩ := p; exact blanks_bad l A A' c m c' w k e h hL hc hS hsz
end Go.Proofs.Cuts
