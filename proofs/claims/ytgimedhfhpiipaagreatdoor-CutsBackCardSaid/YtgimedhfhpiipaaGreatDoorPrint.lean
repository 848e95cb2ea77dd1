/-
  cuts.Print: what it answers. Conditions: the listed variables lie in the world; the list's events can be read.
-/
import Derived.Test.YtgimedhfhpiipaaGreatDoorLine
import Derived.Test.YtgimedhfhpiipaaGreatDoorLength
namespace Go.Proofs.Cuts
open Go.RowKit

/-- What Print answers. -/
def PrintEnd (B : Nat) (w : World) (l : CL) (r : Ending) : Option (Int × Int) → Prop
  | none => if (printText l).length ≤ 20000 then r = .returned (.tuple #[.string (ba (printText l)), .nilIface]) else ∃ v, r = .returned (.tuple #[.string ⟨#[]⟩, v]) ∧ Fault 99 101 B w v (-1) 191
  | some (k, e) => ∃ v, r = .returned (.tuple #[.string ⟨#[]⟩, v]) ∧ Fault 99 101 B w v k e
def headText (l : CL) : List UInt8 := [108, 105, 115, 116, 32] ++ rateName l.rate ++ [32] ++ (34 :: (esc (bl l.title) ++ [34])) ++ [10]
theorem headText_row (l : CL) : headText l = rowText (headIts l) ++ [10] := by
  simp [headText, rowText, headIts, rowOf, Row.line, lineOf, It.text]
theorem printText_is (l : CL) : printText l = headText l ++ l.evs.flatMap (evLine l.rate) := by
  unfold printText
  rw [textOf_cons, headText_row, List.append_assoc]
  congr 1
  rw [List.cons_append, List.nil_append]
  congr 1
  induction l.evs with
  | nil => rfl
  | cons e r ih => rw [List.map_cons, textOf_cons, ih, List.flatMap_cons, evLine_row]; simp
theorem print_bad (l : CL) (A : Option Addr) (c : Nat) (w : World) (k e : Int) (hck : check l = some (k, e)) (hL : Laid w) (hc : l.evs.length ≤ c) (hS : EvsAt w A l.evs) (hsz : ∀ e ∈ l.evs, e.reel.size ≤ maxLen ∧ e.note.size ≤ maxLen) :
    Calls Tryz.prog 21 #[.agg #[.string l.title, .int .i64 l.rate, .slice A l.evs.length c]] w fun r w' => PrintEnd w.heap.size w' l r (check l) ∧ Gr w w' := by
  have hg0 := (Gr.refl w).alloc (.cells #[.string l.title, .int .i64 l.rate, .slice A l.evs.length c] 30)
  have hchk := check_any l A c _ (hL.grow hg0) hc (hS.grow hg0) hsz
  rw [hck] at hchk ⊢
  have Hc := Lib.hid hchk
  have Hg := Lib.hid hg0
  clear hchk hg0 hck hL hc hS hsz
  obtain ⟨title, rate, evs⟩ := l
  obtain ⟨n, hn⟩ : ∃ n, evs.length = n := ⟨_, rfl⟩
  simp only [hn] at Hc Hg ⊢
  clear hn
  go_enter Tryz.func21, Tryz.ntmps21
  go_wp2_with fail
  refine Hc.out.mono ?_
  rintro e' w1 ⟨⟨v, rfl, hv⟩, hg⟩
  obtain ⟨b, rfl, hb, hh⟩ := hv
  have HF := Lib.hid (show Fault 99 101 w.heap.size w1 (.iface 99 (.pointer (some ⟨b, 0, none⟩))) k e from ⟨b, rfl, by simp at hb; omega, hh⟩)
  have HG := Lib.hid (Hg.out.trans hg)
  clear hb hh hg
  go_wp2
  go_ret2
  exact ⟨⟨_, rfl, HF.out⟩, HG.out⟩
theorem evLine_length {r : Int} {ah : List Ev} {e : Ev} {d : Int} (h : EvMay ah e d) : (evLine r e).length ≤ 270 := by
  have hf := fadesB_range h.fades
  have hreel : (bl e.reel).length ≤ 16 := by
    have := h.reel
    simp only [nameOk, Bool.and_eq_true, decide_eq_true_eq] at this
    exact this.2
  have hn : (esc (bl e.note)).length ≤ 200 := by
    have := esc_length (bl e.note)
    have hn := h.note
    rw [bl_length] at this
    omega
  have l1 := nameOf_length r e.i
  have l2 := nameOf_length r e.o
  unfold evLine
  by_cases h1 : 0 < e.fade
  · have := itoa_length (n := e.fade) (by omega) (by omega)
    rw [if_pos h1]
    split <;> simp only [List.length_append, List.length_cons, List.length_nil] <;> omega
  · rw [if_neg h1]
    split <;> simp only [List.length_append, List.length_cons, List.length_nil] <;> omega

theorem may_at {l : CL} (hm : May l) {a b : List Ev} {e : Ev} (h : l.evs = a ++ e :: b) : EvMay a e (day l.rate) := by
  have : May { l with evs := (a ++ [e]) ++ b } := by
    have e2 : { l with evs := (a ++ [e]) ++ b } = l := by rw [List.append_assoc]; simp only [List.cons_append, List.nil_append]; rw [← h]
    rw [e2]; exact hm
  exact this.front.last
set_option maxRecDepth 100000 in
set_option maxHeartbeats 4000000 in
theorem print_good (l : CL) (A : Option Addr) (c : Nat) (w : World) (hck : check l = none) (hL : Laid w) (hc : l.evs.length ≤ c) (hS : EvsAt w A l.evs) (hsz : ∀ e ∈ l.evs, e.reel.size ≤ maxLen ∧ e.note.size ≤ maxLen) :
    Calls Tryz.prog 21 #[.agg #[.string l.title, .int .i64 l.rate, .slice A l.evs.length c]] w fun r w' => PrintEnd w.heap.size w' l r (check l) ∧ Gr w w' := by
  have hg0 := (Gr.refl w).alloc (.cells #[.string l.title, .int .i64 l.rate, .slice A l.evs.length c] 30)
  have hchk := check_any l A c _ (hL.grow hg0) hc (hS.grow hg0) hsz
  have hm := (may_iff l).1 hck
  have hmany := hm.many
  rw [hck] at hchk ⊢
  have Hc := Lib.hid hchk
  have HM := Lib.hid hm
  have HS := Lib.hid hS
  have HL := Lib.hid hL
  have Hq := Lib.hid (fun w1 => quoted_any l.title w1 (valid_iff.1 hm.valid) (by have := hm.title; omega))
  have Hrn := Lib.hid (fun w1 => rateName_any l.rate w1)
  obtain ⟨Q, hQ⟩ : ∃ Q, ba (34 :: (esc (bl l.title) ++ [34])) = Q := ⟨_, rfl⟩
  obtain ⟨N, hN⟩ : ∃ N, ba (rateName l.rate) = N := ⟨_, rfl⟩
  have hQs : Q.size ≤ 300 := by
    rw [← hQ, ba_size']
    have := esc_length (bl l.title)
    have hn := hm.title
    rw [bl_length] at this
    simp only [List.length_cons, List.length_append, List.length_nil]
    omega
  have hNs : N.size ≤ 3 := by
    rw [← hN, ba_size']
    rcases isRate_cases hm.rate with h | h | h | h | h | h | h <;> rw [h] <;> decide
  have Hbl := Lib.hid (show bl N = rateName l.rate ∧ bl Q = 34 :: (esc (bl l.title) ++ [34]) from ⟨by rw [← hN, bl_ba], by rw [← hQ, bl_ba]⟩)
  rw [hQ] at Hq
  rw [hN] at Hrn
  have Hpt := Lib.hid (printText_is l)
  clear hchk hck hL hS hsz hm hQ hN
  obtain ⟨title, rate, evs⟩ := l
  obtain ⟨n, hn⟩ : ∃ n, evs.length = n := ⟨_, rfl⟩
  simp only [hn] at Hc hg0 hc hmany HM HS ⊢
  simp only at Hq Hrn Hbl Hpt
  have hb0 := heap_new w (.cells #[.string title, .int .i64 rate, .slice A n c] 30)
  have Hn := Lib.hid hn
  clear hn
  have hsizes : ∀ a b : ByteArray, (a ++ b).size = a.size + b.size := fun a b => ByteArray.size_append
  obtain ⟨X1, hX1⟩ : ∃ X, (⟨#[108, 105, 115, 116, 32]⟩ : ByteArray) ++ N = X := ⟨_, rfl⟩
  have hX1s : X1.size ≤ 10 := by rw [← hX1, hsizes]; show 5 + N.size ≤ 10; omega
  have a1 := fun W => run_string_add (P := Tryz.prog) W ⟨#[108, 105, 115, 116, 32]⟩ N (by decide) (by omega)
  obtain ⟨X2, hX2⟩ : ∃ X, X1 ++ (⟨#[32]⟩ : ByteArray) = X := ⟨_, rfl⟩
  have hX2s : X2.size ≤ 20 := by rw [← hX2, hsizes]; show X1.size + 1 ≤ 20; omega
  have a2 := fun W => run_string_add (P := Tryz.prog) W X1 ⟨#[32]⟩ (by omega) (by decide)
  obtain ⟨X3, hX3⟩ : ∃ X, X2 ++ Q = X := ⟨_, rfl⟩
  have hX3s : X3.size ≤ 350 := by rw [← hX3, hsizes]; omega
  have a3 := fun W => run_string_add (P := Tryz.prog) W X2 Q (by omega) (by omega)
  obtain ⟨X4, hX4⟩ : ∃ X, X3 ++ (⟨#[10]⟩ : ByteArray) = X := ⟨_, rfl⟩
  have hX4s : X4.size ≤ 360 := by rw [← hX4, hsizes]; show X3.size + 1 ≤ 360; omega
  have a4 := fun W => run_string_add (P := Tryz.prog) W X3 ⟨#[10]⟩ (by omega) (by decide)
  have HX4 := Lib.hid (show bl X4 = headText ⟨title, rate, evs⟩ by
    rw [← hX4, ← hX3, ← hX2, ← hX1]
    simp only [bl_append, Hbl.out.1, Hbl.out.2, headText]
    rfl)
  rw [hX1] at a1
  rw [hX2] at a2
  rw [hX3] at a3
  rw [hX4] at a4
  clear hX1 hX2 hX3 hX4 hsizes
  go_enter Tryz.func21, Tryz.ntmps21
  go_wp2_with fail
  refine Hc.out.mono ?_
  rintro e' w1 ⟨⟨v, rfl, hv⟩, hg⟩
  obtain rfl : v = .nilIface := hv
  have hb1 := (hg.below.block _ (Array.getElem?_eq_some_iff.1 hb0).1).trans hb0
  obtain ⟨c0, c1, c2, cf⟩ := cells3 hb1
  have hG := hg0.trans hg
  have HG := Lib.hid hG
  have HB := Lib.hid hb1
  clear hb0 hb1 hg hg0 hG
  go_wp2
  go_region_held3 (fun w' => Gr w w' ∧ w'.cell? ⟨w.heap.size, 0, none⟩ = some (.string title) ∧ w'.cell? ⟨w.heap.size, 1, none⟩ = some (.int .i64 rate) ∧ w'.cell? ⟨w.heap.size, 2, none⟩ = some (.slice A n c)) (first | assumption | exact ⟨HG.out.drew, c0, c1, c2⟩ | (obtain ⟨hq1, hq2, hq3, hq4⟩ := ‹Gr w _ ∧ _ ∧ _ ∧ _›; exact ⟨hq1.trans hg, hg.cell hq2, hg.cell hq3, hg.cell hq4⟩))
    (first | (go_at_call 49; refine (Hrn.out _).mono ?_; rintro e w' ⟨rfl, rfl⟩) | (go_at_call 50; refine (Hq.out _).mono ?_; rintro e w' ⟨rfl, hg⟩))
  rename_i hS
  obtain ⟨hG1, b0, b1, b2⟩ := hS
  have HG1 := Lib.hid hG1
  clear hG1 hg c0 c1 c2 cf a1 a2 a3 a4
  go_wp2
  go_loopg [5, 26] n (fun g v u wx => Gr w wx ∧ wx.cell? ⟨w.heap.size, 1, none⟩ = some (.int .i64 rate) ∧ ∃ (k : Nat) (S : ByteArray), k + g = n ∧ v = .string S ∧ u = .int .i64 k ∧ S.size ≤ 360 + 270 * k ∧ Hid (bl S = headText ⟨title, rate, evs⟩ ++ (evs.take k).flatMap (evLine rate)))
  case atStart => exact ⟨HG1.out, b1, 0, X4, by omega, rfl, rfl, by omega, Lib.hid (by rw [HX4.out]; simp)⟩
  case round =>
    obtain ⟨hGx, bx1, k, S, hk, rfl, rfl, hSs, HK⟩ := hrel
    by_cases hlt : k < n
    · obtain ⟨ev, hev⟩ : ∃ ev, evs[k]? = some ev := by
        rw [List.getElem?_eq_getElem (by rw [Hn.out]; exact hlt)]; exact ⟨_, rfl⟩
      obtain ⟨b, o, rfl, hcells⟩ : ∃ b o, A = some ⟨b, o, none⟩ ∧ ∀ k e, evs[k]? = some e → EvAt w b o k e := by
        rcases HS.out with h0 | h1
        · rw [h0] at hev; cases hev
        · exact h1
      obtain ⟨q0, q1, q2, q3, q4⟩ := (hcells k ev hev).grow hGx
      have hE : EvMay (evs.take k) ev (day rate) := by
        have hlt' := (List.getElem?_eq_some_iff.1 hev).1
        have e1 : evs[k] = ev := (List.getElem?_eq_some_iff.1 hev).2
        have : evs = evs.take k ++ ev :: evs.drop (k + 1) := by rw [← e1, ← List.drop_eq_getElem_cons hlt', List.take_append_drop]
        exact may_at HM.out this
      have hline := line_any rate ev (evs.take k) (wr.alloc (.cells #[.string ev.reel, .int .i64 ev.i, .int .i64 ev.o, .int .i64 ev.fade, .string ev.note] 51)) HM.out.rate hE (HL.out.grow (hGx.alloc _))
      obtain ⟨T, hT⟩ : ∃ T, ba (evLine rate ev) = T := ⟨_, rfl⟩
      have hTs : T.size ≤ 270 := by rw [← hT, ba_size']; exact evLine_length hE
      have HT := Lib.hid (show bl T = evLine rate ev by rw [← hT, bl_ba])
      have hstep : bl (S ++ T) = headText ⟨title, rate, evs⟩ ++ (evs.take (k + 1)).flatMap (evLine rate) := by
        rw [bl_append, HK.out, HT.out, List.take_add_one, hev]
        simp
      rw [hT] at hline
      have Hline := Lib.hid hline
      have Hstep := Lib.hid hstep
      have HGx := Lib.hid hGx
      clear hline hT hstep hE hcells hev hGx
      obtain ⟨reel, i, o', fade, note⟩ := ev
      simp only at q0 q1 q2 q3 q4 Hline
      have bx1' := old_alloc bx1 (.cells #[.string reel, .int .i64 i, .int .i64 o', .int .i64 fade, .string note] 51)
      go_wp2_with fail
      refine Hline.out.mono ?_
      rintro e w2 ⟨rfl, hg2⟩
      have hg3 := (Gr.refl wr).alloc (.cells #[.string reel, .int .i64 i, .int .i64 o', .int .i64 fade, .string note] 51)
      have b1' := (hg3.trans hg2).cell bx1
      have HG2 := Lib.hid (HGx.out.trans (hg3.trans hg2))
      clear hg2 hg3 bx1 bx1' q0 q1 q2 q3 q4
      go_wp2
      go_roundg (gk - 1)
      case measure => omega
      case rel => exact ⟨HG2.out, b1', k + 1, S ++ T, by omega, rfl, by go_num, by rw [ByteArray.size_append]; omega, Hstep.out⟩
    · have hkn : k = n := by omega
      have hfull : evs.take k = evs := List.take_of_length_le (by rw [Hn.out]; omega)
      have hS2 := HK.out
      rw [hfull, ← Hpt.out] at hS2
      have HS2 := Lib.hid hS2
      have hlen : (printText ⟨title, rate, evs⟩).length = S.size := by rw [← hS2, bl_length]
      have Hlen := Lib.hid hlen
      have HGx := Lib.hid hGx
      clear hfull hS2 hlen hGx HK
      by_cases hlong : 20000 < S.size
      · have d1 : decide (20000 < S.size) = true := decide_eq_true hlong
        go_wp2_with fail
        refine (wrong_any _ _ _).mono ?_
        rintro e w2 ⟨⟨v, rfl, hv⟩, hg2⟩
        obtain ⟨bb, rfl, hb, hh⟩ := hv
        have HF := Lib.hid (show Fault 99 101 w.heap.size w2 (.iface 99 (.pointer (some ⟨bb, 0, none⟩))) (-1) 191 from ⟨bb, rfl, by have := HGx.out.size; omega, hh⟩)
        have HG := Lib.hid (HGx.out.trans hg2)
        clear hg2 hb hh
        go_wp2
        go_ret2
        refine ⟨?_, HG.out⟩
        simp only [PrintEnd]
        rw [if_neg (by rw [Hlen.out]; omega)]
        exact ⟨_, rfl, HF.out⟩
      · have d1 : decide (20000 < S.size) = false := decide_eq_false hlong
        go_wp2
        go_ret2
        refine ⟨?_, HGx.out⟩
        simp only [PrintEnd]
        rw [if_pos (by rw [Hlen.out]; omega), ← HS2.out, ba_bl]
        rfl
theorem print_any (l : CL) (A : Option Addr) (c : Nat) (w : World) (hL : Laid w) (hc : l.evs.length ≤ c) (hS : EvsAt w A l.evs) (hsz : ∀ e ∈ l.evs, e.reel.size ≤ maxLen ∧ e.note.size ≤ maxLen) :
    Calls Tryz.prog 21 #[.agg #[.string l.title, .int .i64 l.rate, .slice A l.evs.length c]] w fun r w' => PrintEnd w.heap.size w' l r (check l) ∧ Gr w w' := by
  cases h : check l with
  | none => rw [← h]; exact print_good l A c w h hL hc hS hsz
  | some p => obtain ⟨k, e⟩ := p; rw [← h]; exact print_bad l A c w k e h hL hc hS hsz
end Go.Proofs.Cuts
