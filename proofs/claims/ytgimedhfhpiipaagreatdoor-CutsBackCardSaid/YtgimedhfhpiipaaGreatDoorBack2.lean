/-
  CutsBack at a list that may be. Conditions: the listed variables lie in the world; the list's events can be read.
-/
import Derived.Test.YtgimedhfhpiipaaGreatDoorBack
import Derived.Test.YtgimedhfhpiipaaGreatDoorEvent
namespace Go.Proofs.Cuts
open Go.RowKit

theorem printed_ok (l : CL) (A : Option Addr) (c : Nat) (w : World) (hm : May l) (hL : Laid w) (hc : l.evs.length ≤ c) (hS : EvsAt w A l.evs) (hl : (printText l).length ≤ 20000) :
    Calls Tryz.prog 21 #[.agg #[.string l.title, .int .i64 l.rate, .slice A l.evs.length c]] w fun r w' => r = .returned (.tuple #[.string (ba (printText l)), .nilIface]) ∧ Gr w w' := by
  refine (print_any l A c w hL hc hS (may_sizes hm)).mono fun r w' ⟨h, hg⟩ => ⟨?_, hg⟩
  rw [(may_iff l).2 hm] at h
  simp only [PrintEnd] at h
  rw [if_pos hl] at h
  exact h
theorem printed_long (l : CL) (A : Option Addr) (c : Nat) (w : World) (hm : May l) (hL : Laid w) (hc : l.evs.length ≤ c) (hS : EvsAt w A l.evs) (hl : ¬ (printText l).length ≤ 20000) :
    Calls Tryz.prog 21 #[.agg #[.string l.title, .int .i64 l.rate, .slice A l.evs.length c]] w fun r w' => (∃ b, r = .returned (.tuple #[.string ⟨#[]⟩, .iface 99 (.pointer (some ⟨b, 0, none⟩))]) ∧ w'.heap[b]? = some (.cells #[.int .i64 (-1), .int .i64 191] 101 (0, 0))) ∧ Gr w w' := by
  refine (print_any l A c w hL hc hS (may_sizes hm)).mono fun r w' ⟨h, hg⟩ => ⟨?_, hg⟩
  rw [(may_iff l).2 hm] at h
  simp only [PrintEnd] at h
  rw [if_neg hl] at h
  obtain ⟨v, rfl, b, rfl, hb, hh⟩ := h
  exact ⟨b, rfl, hh⟩
theorem checked_any (l : CL) (A : Option Addr) (c : Nat) (w : World) (hm : May l) (hL : Laid w) (hc : l.evs.length ≤ c) (hS : EvsAt w A l.evs) :
    Calls Tryz.prog 15 #[.agg #[.string l.title, .int .i64 l.rate, .slice A l.evs.length c]] w fun r w' => r = .returned .nilIface ∧ Gr w w' := by
  refine (check_any l A c w hL hc hS (may_sizes hm)).mono fun r w' ⟨⟨v, hr, h⟩, hg⟩ => ⟨?_, hg⟩
  rw [(may_iff l).2 hm] at h
  rw [hr, show v = .nilIface from h]
theorem ba_printed {l : CL} (hm : May l) (h : (printText l).length ≤ 20000) : parse (ba (printText l)) = .ok l :=
  parse_print hm (bl_ba _) (by rw [ba_size']; exact h)
theorem parse_no (s : ByteArray) (w : World) (hL : Laid w) (er : Err) (hp : parse s = .error er) :
    Calls Tryz.prog 9 #[.string s] w fun e w' => ∃ b, e = .returned (.tuple #[.agg #[.string ⟨#[]⟩, .int .i64 0, .slice none 0 0], .iface 82 (.pointer (some ⟨b, 0, none⟩))]) ∧ Gr w w' := by
  have h := parse_any s w hL
  rw [hp] at h
  refine h.mono ?_
  rintro e w' ⟨⟨v, rfl, b, rfl, _, _⟩, hg⟩
  exact ⟨b, rfl, hg⟩

set_option maxRecDepth 100000 in
set_option maxHeartbeats 8000000 in
theorem back_short (l : CL) (A : Option Addr) (c : Nat) (s : ByteArray) (w : World) (hm : May l) (hL : Laid w) (hc : l.evs.length ≤ c) (hS : EvsAt w A l.evs) (hl : (printText l).length ≤ 20000) :
    Calls Tryz.prog 7 #[.agg #[.string l.title, .int .i64 l.rate, .slice A l.evs.length c], .string s] w fun r w' => r = .returned (.bool true) ∧ Gr w w' := by
  have hg0 := (Gr.refl w).alloc (.cells #[.string l.title, .int .i64 l.rate, .slice A l.evs.length c] 30)
  have Hchk := Lib.hid (fun w1 (g : Gr w w1) => checked_any l A c w1 hm (hL.grow g) hc (hS.grow g))
  have Hpr := Lib.hid (fun w1 (g : Gr w w1) => printed_ok l A c w1 hm (hL.grow g) hc (hS.grow g) hl)
  have Hpr2 := Lib.hid (fun A' c' w1 (g : Gr w w1) (hc' : l.evs.length ≤ c') (hS' : EvsAt w1 A' l.evs) => printed_ok l A' c' w1 hm (hL.grow g) hc' hS' hl)
  have Hsame := Lib.hid (fun A' c' w1 (g : Gr w w1) (hS' : EvsAt w1 A' l.evs) => same_eq l A' A c' c w1 (by have := hm.many; omega) hS' (hS.grow g))
  have Hp := Lib.hid (fun w1 (g : Gr w w1) => parse_to l (ba (printText l)) w1 (hL.grow g) (ba_printed hm hl))
  have Hal := Lib.hid (alive_any _ (hL.grow hg0))
  have Hb := Lib.hid (heap_new w (.cells #[.string l.title, .int .i64 l.rate, .slice A l.evs.length c] 30))
  have Hg := Lib.hid hg0
  have HL := Lib.hid hL
  clear hg0 hL hc hS hm hl
  obtain ⟨title, rate, evs⟩ := l
  obtain ⟨n, hn⟩ : ∃ n, evs.length = n := ⟨_, rfl⟩
  obtain ⟨PT, hPT⟩ : ∃ PT, ba (printText ⟨title, rate, evs⟩) = PT := ⟨_, rfl⟩
  simp only [hn, hPT] at Hchk Hpr Hpr2 Hsame Hp Hg Hal Hb ⊢
  clear hn hPT
  go_enter Tryz.func7, Tryz.ntmps7
  go_wp2_with fail
  refine Hal.out.mono ?_
  rintro r w1 ⟨rfl, hg1⟩
  have hb1 := (hg1.below.block _ (Array.getElem?_eq_some_iff.1 Hb.out).1).trans Hb.out
  obtain ⟨c0, c1, c2, cf⟩ := cells3 hb1
  have HG1 := Lib.hid (Hg.out.trans hg1)
  have Hb1 := Lib.hid hb1
  clear hg1 hb1
  go_wp2_with fail
  refine (Hpr.out _ HG1.out).mono ?_
  rintro r w2 ⟨rfl, hg2⟩
  have hb2 := (hg2.below.block _ (Array.getElem?_eq_some_iff.1 Hb1.out).1).trans Hb1.out
  have HG2 := Lib.hid (HG1.out.trans hg2)
  have Hb2 := Lib.hid hb2
  clear c0 c1 c2 cf
  obtain ⟨c0, c1, c2, cf⟩ := cells3 hb2
  clear hg2 hb2
  go_wp2_with fail
  refine (Hchk.out _ HG2.out).mono ?_
  rintro r w3 ⟨rfl, hg3⟩
  have hb3 := (hg3.below.block _ (Array.getElem?_eq_some_iff.1 Hb2.out).1).trans Hb2.out
  have HG3 := Lib.hid (HG2.out.trans hg3)
  have Hb3 := Lib.hid hb3
  clear c0 c1 c2 cf hg3 hb3
  go_upto_if 42 with fail
  go_cut [] (fun wx => Gr w wx)
  case first =>
    go_wp2_with fail
    refine (Hp.out _ HG3.out).mono ?_
    rintro r w4 ⟨A4, c4, rfl, hc4, hS4, hg4⟩
    have hg4' := (Gr.refl w4).alloc (.cells #[.string title, .int .i64 rate, .slice A4 n c4] 30)
    have hm4 := heap_new w4 (.cells #[.string title, .int .i64 rate, .slice A4 n c4] 30)
    have hb4 := heap_old ((hg4.below.block _ (Array.getElem?_eq_some_iff.1 Hb3.out).1).trans Hb3.out) (.cells #[.string title, .int .i64 rate, .slice A4 n c4] 30)
    obtain ⟨c0, c1, c2, cf⟩ := cells3 hb4
    have HG4 := Lib.hid ((HG3.out.trans hg4).trans hg4')
    have HS4 := Lib.hid (hS4.grow hg4')
    have Hm4 := Lib.hid hm4
    clear hg4 hg4' hb4 hm4 hS4
    go_wp2_with fail
    refine (Hsame.out A4 c4 _ HG4.out HS4.out).mono ?_
    rintro r w5 ⟨rfl, hg5⟩
    have hm5 := (hg5.below.block _ (Array.getElem?_eq_some_iff.1 Hm4.out).1).trans Hm4.out
    clear c0 c1 c2 cf
    obtain ⟨c0, c1, c2, cf⟩ := cells3 hm5
    have HG5 := Lib.hid (HG4.out.trans hg5)
    have HS5 := Lib.hid (HS4.out.grow hg5)
    clear hg5 hm5
    go_wp2_with fail
    refine (Hpr2.out A4 c4 _ HG5.out hc4 HS5.out).mono ?_
    rintro r w6 ⟨rfl, hg6⟩
    have HG6 := Lib.hid (HG5.out.trans hg6)
    clear hg6 c0 c1 c2 cf
    go_wp2
    go_meet
    case rel => exact HG6.out
  case rest =>
    cases hps : parse s with
    | error er =>
      have Hpn := Lib.hid (parse_no s wc (HL.out.grow hcut) er hps)
      have HC := Lib.hid hcut
      clear hcut hps
      go_wp2_with fail
      refine Hpn.out.mono ?_
      rintro r w5 ⟨b5, rfl, hg5⟩
      have HG5 := Lib.hid (HC.out.trans hg5)
      clear hg5
      go_wp2
      go_ret
      exact ⟨rfl, HG5.out.alloc _⟩
    | ok d =>
      have hmd := parse_may hps
      have Hpo := Lib.hid (parse_to d s wc (HL.out.grow hcut) hps)
      have HC := Lib.hid hcut
      have hdl := hmd.many
      have HMd := Lib.hid hmd
      have HLd := Lib.hid (fun w1 (g : Gr w w1) => HL.out.grow g)
      clear hcut hps hmd
      obtain ⟨dt, dr, de⟩ := d
      obtain ⟨m, hm⟩ : ∃ m, de.length = m := ⟨_, rfl⟩
      simp only [hm] at Hpo hdl
      go_wp2_with fail
      refine Hpo.out.mono ?_
      rintro r w5 ⟨A5, c5, rfl, hc5, hS5, hg5⟩
      have hb5 := heap_new w5 (.cells #[.string dt, .int .i64 dr, .slice A5 m c5] 30)
      have hg5' := (Gr.refl w5).alloc (.cells #[.string dt, .int .i64 dr, .slice A5 m c5] 30)
      have HG5 := Lib.hid ((HC.out.trans hg5).trans hg5')
      have hck5 := checked_any ⟨dt, dr, de⟩ A5 c5 _ HMd.out (HLd.out _ HG5.out) (by simp only [hm]; exact hc5) (hS5.grow hg5')
      simp only [hm] at hck5
      have Hck5 := Lib.hid hck5
      have HS5 := Lib.hid (hS5.grow hg5')
      have Hb5 := Lib.hid hb5
      have Hm := Lib.hid hm
      clear hg5 hg5' hb5 hck5 hS5 hm
      go_wp2_with fail
      refine Hck5.out.mono ?_
      rintro r w6 ⟨rfl, hg6⟩
      have hb6 := (hg6.below.block _ (Array.getElem?_eq_some_iff.1 Hb5.out).1).trans Hb5.out
      obtain ⟨m0, m1, m2, mf⟩ := cells3 hb6
      have HG6 := Lib.hid (HG5.out.trans hg6)
      have HS6 := Lib.hid (HS5.out.grow hg6)
      have Hb6 := Lib.hid hb6
      clear hg6 hb6
      by_cases hlen2 : (printText ⟨dt, dr, de⟩).length ≤ 20000
      · have hpr6 := printed_ok ⟨dt, dr, de⟩ A5 c5 w6 HMd.out (HLd.out _ HG6.out) (by simp only [Hm.out]; exact hc5) HS6.out hlen2
        have hp6 := fun w1 (g : Gr w w1) => parse_to ⟨dt, dr, de⟩ _ w1 (HLd.out _ g) (ba_printed HMd.out hlen2)
        obtain ⟨U, hU⟩ : ∃ U, ba (printText ⟨dt, dr, de⟩) = U := ⟨_, rfl⟩
        simp only [Hm.out, hU] at hpr6 hp6
        have Hpr6 := Lib.hid hpr6
        have Hp6 := Lib.hid hp6
        clear hpr6 hp6 hU hlen2
        go_wp2_with fail
        refine Hpr6.out.mono ?_
        rintro r w7 ⟨rfl, hg7⟩
        have hb7 := (hg7.below.block _ (Array.getElem?_eq_some_iff.1 Hb6.out).1).trans Hb6.out
        have HG7 := Lib.hid (HG6.out.trans hg7)
        have HS7 := Lib.hid (HS6.out.grow hg7)
        have Hb7 := Lib.hid hb7
        clear m0 m1 m2 mf hg7 hb7
        go_wp2_with fail
        refine (Hp6.out _ HG7.out).mono ?_
        rintro r w8 ⟨A8, c8, rfl, hc8, hS8, hg8⟩
        have hg8' := (Gr.refl w8).alloc (.cells #[.string dt, .int .i64 dr, .slice A8 m c8] 30)
        have hb8 := heap_old ((hg8.below.block _ (Array.getElem?_eq_some_iff.1 Hb7.out).1).trans Hb7.out) (.cells #[.string dt, .int .i64 dr, .slice A8 m c8] 30)
        obtain ⟨m0, m1, m2, mf⟩ := cells3 hb8
        have HG8 := Lib.hid ((HG7.out.trans hg8).trans hg8')
        have hsm := same_eq ⟨dt, dr, de⟩ A8 A5 c8 c5 _ (by simp only [Hm.out]; omega) (hS8.grow hg8') ((HS7.out.grow hg8).grow hg8')
        simp only [Hm.out] at hsm
        have Hsm := Lib.hid hsm
        clear hg8 hg8' hb8 hsm hS8
        go_wp2_with fail
        refine Hsm.out.mono ?_
        rintro r w9 ⟨rfl, hg9⟩
        have HG9 := Lib.hid (HG8.out.trans hg9)
        clear hg9 m0 m1 m2 mf
        go_wp2
        go_ret
        exact ⟨rfl, HG9.out⟩
      · have hpr6 := printed_long ⟨dt, dr, de⟩ A5 c5 w6 HMd.out (HLd.out _ HG6.out) (by simp only [Hm.out]; exact hc5) HS6.out hlen2
        simp only [Hm.out] at hpr6
        have Hpr6 := Lib.hid hpr6
        clear hpr6 hlen2
        go_wp2_with fail
        refine Hpr6.out.mono ?_
        rintro r w7 ⟨⟨b7, rfl, hb7⟩, hg7⟩
        have HG7 := Lib.hid (HG6.out.trans hg7)
        obtain ⟨z0, z1, -⟩ : w7.cell? ⟨b7, 0, none⟩ = some (.int .i64 (-1)) ∧ w7.cell? ⟨b7, 1, none⟩ = some (.int .i64 191) ∧ True := ⟨by simp [World.cell?, hb7], by simp [World.cell?, hb7], trivial⟩
        have His := Lib.hid (is_event b7 191 191 w7 z1)
        clear hg7 hb7 m0 m1 m2 mf z0 z1
        go_wp2_with fail
        refine His.out.mono ?_
        rintro r w8 ⟨rfl, rfl⟩
        go_wp2
        go_ret
        exact ⟨rfl, HG7.out⟩

set_option maxRecDepth 100000 in
set_option maxHeartbeats 8000000 in
theorem back_long (l : CL) (A : Option Addr) (c : Nat) (s : ByteArray) (w : World) (hm : May l) (hL : Laid w) (hc : l.evs.length ≤ c) (hS : EvsAt w A l.evs) (hl : ¬ (printText l).length ≤ 20000) :
    Calls Tryz.prog 7 #[.agg #[.string l.title, .int .i64 l.rate, .slice A l.evs.length c], .string s] w fun r w' => r = .returned (.bool true) ∧ Gr w w' := by
  have hg0 := (Gr.refl w).alloc (.cells #[.string l.title, .int .i64 l.rate, .slice A l.evs.length c] 30)
  have Hchk := Lib.hid (fun w1 (g : Gr w w1) => checked_any l A c w1 hm (hL.grow g) hc (hS.grow g))
  have Hpr := Lib.hid (fun w1 (g : Gr w w1) => printed_long l A c w1 hm (hL.grow g) hc (hS.grow g) hl)
  have Hal := Lib.hid (alive_any _ (hL.grow hg0))
  have Hb := Lib.hid (heap_new w (.cells #[.string l.title, .int .i64 l.rate, .slice A l.evs.length c] 30))
  have Hg := Lib.hid hg0
  have HL := Lib.hid hL
  clear hg0 hL hc hS hm hl
  obtain ⟨title, rate, evs⟩ := l
  obtain ⟨n, hn⟩ : ∃ n, evs.length = n := ⟨_, rfl⟩
  simp only [hn] at Hchk Hpr Hg Hal Hb ⊢
  clear hn
  go_enter Tryz.func7, Tryz.ntmps7
  go_wp2_with fail
  refine Hal.out.mono ?_
  rintro r w1 ⟨rfl, hg1⟩
  have hb1 := (hg1.below.block _ (Array.getElem?_eq_some_iff.1 Hb.out).1).trans Hb.out
  obtain ⟨c0, c1, c2, cf⟩ := cells3 hb1
  have HG1 := Lib.hid (Hg.out.trans hg1)
  have Hb1 := Lib.hid hb1
  clear hg1 hb1
  go_wp2_with fail
  refine (Hpr.out _ HG1.out).mono ?_
  rintro r w2 ⟨⟨b, rfl, hbb⟩, hg2⟩
  have hb2 := (hg2.below.block _ (Array.getElem?_eq_some_iff.1 Hb1.out).1).trans Hb1.out
  have HG2 := Lib.hid (HG1.out.trans hg2)
  have Hb2 := Lib.hid hb2
  clear c0 c1 c2 cf
  obtain ⟨c0, c1, c2, cf⟩ := cells3 hb2
  clear hg2 hb2
  have Hbb := Lib.hid hbb
  clear hbb
  go_wp2_with fail
  refine (Hchk.out _ HG2.out).mono ?_
  rintro r w3 ⟨rfl, hg3⟩
  have hb3 := (hg3.below.block _ (Array.getElem?_eq_some_iff.1 Hb2.out).1).trans Hb2.out
  have HG3 := Lib.hid (HG2.out.trans hg3)
  have Hb3 := Lib.hid hb3
  have hbb3 := (hg3.below.block _ (Array.getElem?_eq_some_iff.1 Hbb.out).1).trans Hbb.out
  have z1 : w3.cell? ⟨b, 1, none⟩ = some (.int .i64 191) := by simp [World.cell?, hbb3]
  have His := Lib.hid (is_event b 191 191 w3 z1)
  clear hbb3 z1
  clear c0 c1 c2 cf hg3 hb3
  go_upto_if 42 with fail
  go_cut [] (fun wx => Gr w wx)
  case first =>
    go_wp2_with fail
    refine His.out.mono ?_
    rintro r w4 ⟨rfl, rfl⟩
    go_wp2
    go_meet
    case rel => exact HG3.out
  case rest =>
    cases hps : parse s with
    | error er =>
      have Hpn := Lib.hid (parse_no s wc (HL.out.grow hcut) er hps)
      have HC := Lib.hid hcut
      clear hcut hps
      go_wp2_with fail
      refine Hpn.out.mono ?_
      rintro r w5 ⟨b5, rfl, hg5⟩
      have HG5 := Lib.hid (HC.out.trans hg5)
      clear hg5
      go_wp2
      go_ret
      exact ⟨rfl, HG5.out.alloc _⟩
    | ok d =>
      have hmd := parse_may hps
      have Hpo := Lib.hid (parse_to d s wc (HL.out.grow hcut) hps)
      have HC := Lib.hid hcut
      have hdl := hmd.many
      have HMd := Lib.hid hmd
      have HLd := Lib.hid (fun w1 (g : Gr w w1) => HL.out.grow g)
      clear hcut hps hmd
      obtain ⟨dt, dr, de⟩ := d
      obtain ⟨m, hm⟩ : ∃ m, de.length = m := ⟨_, rfl⟩
      simp only [hm] at Hpo hdl
      go_wp2_with fail
      refine Hpo.out.mono ?_
      rintro r w5 ⟨A5, c5, rfl, hc5, hS5, hg5⟩
      have hb5 := heap_new w5 (.cells #[.string dt, .int .i64 dr, .slice A5 m c5] 30)
      have hg5' := (Gr.refl w5).alloc (.cells #[.string dt, .int .i64 dr, .slice A5 m c5] 30)
      have HG5 := Lib.hid ((HC.out.trans hg5).trans hg5')
      have hck5 := checked_any ⟨dt, dr, de⟩ A5 c5 _ HMd.out (HLd.out _ HG5.out) (by simp only [hm]; exact hc5) (hS5.grow hg5')
      simp only [hm] at hck5
      have Hck5 := Lib.hid hck5
      have HS5 := Lib.hid (hS5.grow hg5')
      have Hb5 := Lib.hid hb5
      have Hm := Lib.hid hm
      clear hg5 hg5' hb5 hck5 hS5 hm
      go_wp2_with fail
      refine Hck5.out.mono ?_
      rintro r w6 ⟨rfl, hg6⟩
      have hb6 := (hg6.below.block _ (Array.getElem?_eq_some_iff.1 Hb5.out).1).trans Hb5.out
      obtain ⟨m0, m1, m2, mf⟩ := cells3 hb6
      have HG6 := Lib.hid (HG5.out.trans hg6)
      have HS6 := Lib.hid (HS5.out.grow hg6)
      have Hb6 := Lib.hid hb6
      clear hg6 hb6
      by_cases hlen2 : (printText ⟨dt, dr, de⟩).length ≤ 20000
      · have hpr6 := printed_ok ⟨dt, dr, de⟩ A5 c5 w6 HMd.out (HLd.out _ HG6.out) (by simp only [Hm.out]; exact hc5) HS6.out hlen2
        have hp6 := fun w1 (g : Gr w w1) => parse_to ⟨dt, dr, de⟩ _ w1 (HLd.out _ g) (ba_printed HMd.out hlen2)
        obtain ⟨U, hU⟩ : ∃ U, ba (printText ⟨dt, dr, de⟩) = U := ⟨_, rfl⟩
        simp only [Hm.out, hU] at hpr6 hp6
        have Hpr6 := Lib.hid hpr6
        have Hp6 := Lib.hid hp6
        clear hpr6 hp6 hU hlen2
        go_wp2_with fail
        refine Hpr6.out.mono ?_
        rintro r w7 ⟨rfl, hg7⟩
        have hb7 := (hg7.below.block _ (Array.getElem?_eq_some_iff.1 Hb6.out).1).trans Hb6.out
        have HG7 := Lib.hid (HG6.out.trans hg7)
        have HS7 := Lib.hid (HS6.out.grow hg7)
        have Hb7 := Lib.hid hb7
        clear m0 m1 m2 mf hg7 hb7
        go_wp2_with fail
        refine (Hp6.out _ HG7.out).mono ?_
        rintro r w8 ⟨A8, c8, rfl, hc8, hS8, hg8⟩
        have hg8' := (Gr.refl w8).alloc (.cells #[.string dt, .int .i64 dr, .slice A8 m c8] 30)
        have hb8 := heap_old ((hg8.below.block _ (Array.getElem?_eq_some_iff.1 Hb7.out).1).trans Hb7.out) (.cells #[.string dt, .int .i64 dr, .slice A8 m c8] 30)
        obtain ⟨m0, m1, m2, mf⟩ := cells3 hb8
        have HG8 := Lib.hid ((HG7.out.trans hg8).trans hg8')
        have hsm := same_eq ⟨dt, dr, de⟩ A8 A5 c8 c5 _ (by simp only [Hm.out]; omega) (hS8.grow hg8') ((HS7.out.grow hg8).grow hg8')
        simp only [Hm.out] at hsm
        have Hsm := Lib.hid hsm
        clear hg8 hg8' hb8 hsm hS8
        go_wp2_with fail
        refine Hsm.out.mono ?_
        rintro r w9 ⟨rfl, hg9⟩
        have HG9 := Lib.hid (HG8.out.trans hg9)
        clear hg9 m0 m1 m2 mf
        go_wp2
        go_ret
        exact ⟨rfl, HG9.out⟩
      · have hpr6 := printed_long ⟨dt, dr, de⟩ A5 c5 w6 HMd.out (HLd.out _ HG6.out) (by simp only [Hm.out]; exact hc5) HS6.out hlen2
        simp only [Hm.out] at hpr6
        have Hpr6 := Lib.hid hpr6
        clear hpr6 hlen2
        go_wp2_with fail
        refine Hpr6.out.mono ?_
        rintro r w7 ⟨⟨b7, rfl, hb7⟩, hg7⟩
        have HG7 := Lib.hid (HG6.out.trans hg7)
        obtain ⟨z0, z1, -⟩ : w7.cell? ⟨b7, 0, none⟩ = some (.int .i64 (-1)) ∧ w7.cell? ⟨b7, 1, none⟩ = some (.int .i64 191) ∧ True := ⟨by simp [World.cell?, hb7], by simp [World.cell?, hb7], trivial⟩
        have His := Lib.hid (is_event b7 191 191 w7 z1)
        clear hg7 hb7 m0 m1 m2 mf z0 z1
        go_wp2_with fail
        refine His.out.mono ?_
        rintro r w8 ⟨rfl, rfl⟩
        go_wp2
        go_ret
        exact ⟨rfl, HG7.out⟩

/-- CutsBack at every list and every text. -/
theorem back_any (l : CL) (A : Option Addr) (c : Nat) (s : ByteArray) (w : World) (hL : Laid w) (hc : l.evs.length ≤ c) (hS : EvsAt w A l.evs) (hsz : ∀ e ∈ l.evs, e.reel.size ≤ maxLen ∧ e.note.size ≤ maxLen) :
    Calls Tryz.prog 7 #[.agg #[.string l.title, .int .i64 l.rate, .slice A l.evs.length c], .string s] w fun r w' => r = .returned (.bool true) ∧ Gr w w' := by
  cases h : check l with
  | none =>
    by_cases hl : (printText l).length ≤ 20000
    · exact back_short l A c s w ((may_iff l).1 h) hL hc hS hl
    · exact back_long l A c s w ((may_iff l).1 h) hL hc hS hl
  | some p => obtain ⟨k, e⟩ := p; exact back_bad l A c s w k e h hL hc hS hsz
end Go.Proofs.Cuts
