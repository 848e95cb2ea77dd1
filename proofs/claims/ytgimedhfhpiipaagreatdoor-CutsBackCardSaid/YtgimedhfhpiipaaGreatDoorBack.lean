/-
  CutsBack returns true. Conditions: the listed variables lie in the world; the list's events can be read.
-/
import Derived.Test.YtgimedhfhpiipaaGreatDoorSame
import Derived.Test.YtgimedhfhpiipaaGreatDoorPrint
import Derived.Test.YtgimedhfhpiipaaGreatDoorAlive
namespace Go.Proofs.Cuts
open Go.RowKit

theorem own_evs {w : World} {B : Nat} {v : Value} {l : List Ev} (h : w.ownsRow B 51 5 v l.length (evsCells l)) : ∃ A c, v = .slice A l.length c ∧ l.length ≤ c ∧ EvsAt w A l := by
  rcases Joins.ownsRow_forms h with ⟨rfl, h0⟩ | ⟨g, cap, rfl⟩
  · exact ⟨none, 0, by rw [h0], by omega, .inl (List.eq_nil_of_length_eq_zero h0)⟩
  · exact ⟨some ⟨g, 0, none⟩, cap, rfl, own_cap h, evsAt_own h⟩
theorem may_sizes {l : CL} (hm : May l) : ∀ e ∈ l.evs, e.reel.size ≤ maxLen ∧ e.note.size ≤ maxLen := by
  intro e he
  obtain ⟨ah, h⟩ := evMay_all hm e he
  have hr : e.reel.size ≤ 16 := by
    have := h.reel
    simp only [nameOk, Bool.and_eq_true, decide_eq_true_eq, bl_length] at this
    exact this.2
  have := h.note
  unfold maxLen
  omega
/-- What Parse answers of a text that is read as this list. -/
theorem parse_to (d : CL) (s : ByteArray) (w : World) (hL : Laid w) (hp : parse s = .ok d) :
    Calls Tryz.prog 9 #[.string s] w fun e w' => ∃ A c, e = .returned (.tuple #[.agg #[.string d.title, .int .i64 d.rate, .slice A d.evs.length c], .nilIface]) ∧ d.evs.length ≤ c ∧ EvsAt w' A d.evs ∧ Gr w w' := by
  have h := parse_any s w hL
  rw [hp] at h
  refine h.mono ?_
  rintro e w' ⟨⟨v, rfl, hown⟩, hg⟩
  obtain ⟨A, c, rfl, hc, hS⟩ := own_evs hown
  exact ⟨A, c, rfl, hc, hS, hg⟩
theorem back_bad (l : CL) (A : Option Addr) (c : Nat) (s : ByteArray) (w : World) (k e : Int) (hck : check l = some (k, e)) (hL : Laid w) (hc : l.evs.length ≤ c) (hS : EvsAt w A l.evs) (hsz : ∀ e ∈ l.evs, e.reel.size ≤ maxLen ∧ e.note.size ≤ maxLen) :
    Calls Tryz.prog 7 #[.agg #[.string l.title, .int .i64 l.rate, .slice A l.evs.length c], .string s] w fun r w' => r = .returned (.bool true) ∧ Gr w w' := by
  have hg0 := (Gr.refl w).alloc (.cells #[.string l.title, .int .i64 l.rate, .slice A l.evs.length c] 30)
  have Hchk := Lib.hid (fun w1 (g : Gr w w1) => check_any l A c w1 (hL.grow g) hc (hS.grow g) hsz)
  have Hpr := Lib.hid (fun w1 (g : Gr w w1) => print_any l A c w1 (hL.grow g) hc (hS.grow g) hsz)
  have Hal := Lib.hid (alive_any _ (hL.grow hg0))
  rw [hck] at Hchk Hpr
  have Hb := Lib.hid (heap_new w (.cells #[.string l.title, .int .i64 l.rate, .slice A l.evs.length c] 30))
  have Hg := Lib.hid hg0
  clear hg0 hck hL hc hS hsz
  obtain ⟨title, rate, evs⟩ := l
  obtain ⟨n, hn⟩ : ∃ n, evs.length = n := ⟨_, rfl⟩
  simp only [hn] at Hchk Hpr Hg Hal Hb ⊢
  clear hn
  go_enter Tryz.func7, Tryz.ntmps7
  go_wp2_with fail
  refine Hal.out.mono ?_
  rintro r w1 ⟨rfl, hg1⟩
  have hb1 := (hg1.below.block _ (Array.getElem?_eq_some_iff.1 Hb.out).1).trans Hb.out
  obtain ⟨c0, c1, c2, cf⟩ := cells3 hb1
  have HG1 := Lib.hid (Hg.out.trans hg1)
  have Hb1 := Lib.hid hb1
  clear hg1 hb1
  go_wp2_with fail
  refine (Hpr.out _ HG1.out).mono ?_
  rintro r w2 ⟨⟨v, rfl, hv⟩, hg2⟩
  obtain ⟨b, rfl, hb, hh⟩ := hv
  have hb2 := (hg2.below.block _ (Array.getElem?_eq_some_iff.1 Hb1.out).1).trans Hb1.out
  have HG2 := Lib.hid (HG1.out.trans hg2)
  clear c0 c1 c2 cf
  obtain ⟨c0, c1, c2, cf⟩ := cells3 hb2
  clear hg2 hb2 hb hh
  go_wp2_with fail
  refine (Hchk.out _ HG2.out).mono ?_
  rintro r w3 ⟨⟨v, rfl, hv⟩, hg3⟩
  obtain ⟨b', rfl, hb, hh⟩ := hv
  have HG3 := Lib.hid (HG2.out.trans hg3)
  clear hg3 hb hh c0 c1 c2 cf
  go_wp2
  go_ret
  exact ⟨rfl, HG3.out⟩
end Go.Proofs.Cuts
