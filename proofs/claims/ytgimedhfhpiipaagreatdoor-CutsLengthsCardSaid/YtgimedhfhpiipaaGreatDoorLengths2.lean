/-
  CutsLengths at a list that may be. Conditions: the listed variables lie in the world; the list's events can be read.
-/
import Derived.Test.YtgimedhfhpiipaaGreatDoorLengths
import Derived.Deep.AppendLies
namespace Go.Proofs.Cuts
open Go.RowKit

theorem sumX_take (l : List Ev) (k : Nat) (e : Ev) (h : l[k]? = some e) : sumX (l.drop k) = e.o - e.i - headFade (l.drop (k + 1)) + sumX (l.drop (k + 1)) := by
  have hlt := (List.getElem?_eq_some_iff.1 h).1
  rw [List.drop_eq_getElem_cons hlt, sumX]
  have : l[k] = e := (List.getElem?_eq_some_iff.1 h).2
  rw [this]
theorem split_at {l : List Ev} {k : Nat} {e : Ev} (h : l[k]? = some e) : l = l.take k ++ e :: l.drop (k + 1) := by
  have hlt := (List.getElem?_eq_some_iff.1 h).1
  have : l[k] = e := (List.getElem?_eq_some_iff.1 h).2
  rw [← this, ← List.drop_eq_getElem_cons hlt, List.take_append_drop]

theorem evsCells_length (l : List Ev) : (evsCells l).length = l.length * 5 := by
  induction l with
  | nil => rfl
  | cons e r ih => rw [evsCells, List.flatMap_cons, List.length_append, ← evsCells, ih]; simp [evCells]; omega
/-- The cells of events that lie in a row. -/
theorem evsAt_cells {w : World} {b o : Nat} {l : List Ev} (h : ∀ k e, l[k]? = some e → EvAt w b o k e) : ∀ j u, (evsCells l)[j]? = some u → w.cell? ((⟨b, o, none⟩ : Addr).add j) = some u := by
  intro j u hu
  have hj : j < l.length * 5 := by rw [← evsCells_length]; exact (List.getElem?_eq_some_iff.1 hu).1
  have hk : j / 5 < l.length := by omega
  obtain ⟨e, he⟩ : ∃ e, l[j / 5]? = some e := ⟨_, List.getElem?_eq_getElem hk⟩
  have hi := evsCells_at l (j / 5) e he (j % 5) (by omega)
  rw [show j / 5 * 5 + j % 5 = j by omega, hu] at hi
  obtain ⟨h0, h1, h2, h3, h4⟩ := h (j / 5) e he
  rw [Addr.add_lit]
  have hc : j % 5 = 0 ∨ j % 5 = 1 ∨ j % 5 = 2 ∨ j % 5 = 3 ∨ j % 5 = 4 := by omega
  rcases hc with hc | hc | hc | hc | hc <;> rw [hc] at hi <;> simp only [evCells, List.getElem?_cons_zero, List.getElem?_cons_succ, Option.some.injEq] at hi <;> rw [hi]
  · rw [show o + j = o + j / 5 * 5 by omega]; exact h0
  · rw [show o + j = o + j / 5 * 5 + 1 by omega]; exact h1
  · rw [show o + j = o + j / 5 * 5 + 2 by omega]; exact h2
  · rw [show o + j = o + j / 5 * 5 + 3 by omega]; exact h3
  · rw [show o + j = o + j / 5 * 5 + 4 by omega]; exact h4
theorem evsCells_one' (l : List Ev) : ∀ u ∈ evsCells l, u.oneCell' = true := by
  intro u hu
  simp only [evsCells, List.mem_flatMap] at hu
  obtain ⟨e, _, hu⟩ := hu
  simp only [evCells, List.mem_cons, List.not_mem_nil, or_false] at hu
  rcases hu with rfl | rfl | rfl | rfl | rfl <;> rfl
theorem own_empty {w : World} {g B : Nat} (h : w.heap[g]? = some (.cells #[] 51 (0, 0))) (hB : B ≤ g) : w.ownsRow B 51 5 (.slice (some ⟨g, 0, none⟩) 0 0) 0 [] :=
  ⟨rfl, .inr ⟨g, 0, #[], rfl, hB, h, Nat.le_refl _, Nat.zero_le _, rfl, rfl⟩⟩

theorem over_split {l : List Ev} {q : Nat} {p e : Ev} (h1 : l[q]? = some p) (h2 : l[q + 1]? = some e) : l = l.take q ++ p :: e :: l.drop (q + 1 + 1) := by
  have hlt1 := (List.getElem?_eq_some_iff.1 h1).1
  have hlt2 := (List.getElem?_eq_some_iff.1 h2).1
  have e1 : l[q] = p := (List.getElem?_eq_some_iff.1 h1).2
  have e2 : l[q + 1] = e := (List.getElem?_eq_some_iff.1 h2).2
  rw [← e2, ← List.drop_eq_getElem_cons hlt2, ← e1, ← List.drop_eq_getElem_cons hlt1, List.take_append_drop]
theorem over_set {l : List Ev} {q : Nat} {p e : Ev} (f : Int) (h1 : l[q]? = some p) (h2 : l[q + 1]? = some e) : l.set (q + 1) { e with fade := f } = l.take q ++ p :: { e with fade := f } :: l.drop (q + 1 + 1) := by
  have hs := over_split h1 h2
  have hlt := (List.getElem?_eq_some_iff.1 h1).1
  conv => lhs; rw [hs]
  rw [List.set_append_right _ _ (by rw [List.length_take]; omega), List.length_take, show q + 1 - min q l.length = 1 by omega]
  rfl
/-- The events behind the store of a Fade. -/
theorem over_at {w : World} {g kk : Nat} {l : List Ev} {e : Ev} (f : Int) (h : ∀ j x, l[j]? = some x → EvAt w g 0 j x) (he : l[kk]? = some e) : ∀ j x, (l.set kk { e with fade := f })[j]? = some x → EvAt (w.setCell ⟨g, kk * 5 + 3, none⟩ (.int .i64 f)) g 0 j x := by
  intro j x hx
  have far : ∀ a v, a ≠ kk * 5 + 3 → w.cell? ⟨g, a, none⟩ = some v → (w.setCell ⟨g, kk * 5 + 3, none⟩ (.int .i64 f)).cell? ⟨g, a, none⟩ = some v := fun a v ha hv => by
    rw [World.cell?_setCell_other _ _ _ _ (by intro e; injection e with _ e2; exact ha e2.symm)]; exact hv
  have hlt : kk < l.length := (List.getElem?_eq_some_iff.1 he).1
  by_cases hj : j = kk
  · subst hj
    rw [List.getElem?_set_self hlt] at hx
    simp only [Option.some.injEq] at hx
    subst hx
    obtain ⟨h0, h1, h2, h3, h4⟩ := h j e he
    rw [Nat.zero_add] at h0 h1 h2 h3 h4
    refine ⟨?_, ?_, ?_, ?_, ?_⟩ <;> rw [Nat.zero_add]
    · exact far _ _ (by omega) h0
    · exact far _ _ (by omega) h1
    · exact far _ _ (by omega) h2
    · exact World.cell?_setCell_same _ _ _ h3
    · exact far _ _ (by omega) h4
  · rw [List.getElem?_set_ne (Ne.symm hj)] at hx
    obtain ⟨h0, h1, h2, h3, h4⟩ := h j x hx
    exact ⟨far _ _ (by omega) h0, far _ _ (by omega) h1, far _ _ (by omega) h2, far _ _ (by omega) h3, far _ _ (by omega) h4⟩

set_option maxRecDepth 100000 in
set_option maxHeartbeats 8000000 in
theorem lengths_good (l : CL) (A : Option Addr) (c : Nat) (at_ : Int) (w : World) (hck : check l = none) (hL : Laid w) (hc : l.evs.length ≤ c) (hS : EvsAt w A l.evs) (hsz : ∀ e ∈ l.evs, e.reel.size ≤ maxLen ∧ e.note.size ≤ maxLen) (hat : -9223372036854775808 ≤ at_ ∧ at_ ≤ 9223372036854775807) :
    Calls Tryz.prog 6 #[.agg #[.string l.title, .int .i64 l.rate, .slice A l.evs.length c], .int .i64 at_] w fun r w' => r = .returned (.bool true) ∧ Gr w w' := by
  have hm := (may_iff l).1 hck
  have hmany := hm.many
  have hg0 := (Gr.refl w).alloc (.cells #[.string l.title, .int .i64 l.rate, .slice A l.evs.length c] 30)
  have Hchk := Lib.hid (fun w1 (g : Gr w w1) => check_any l A c w1 (hL.grow g) hc (hS.grow g) hsz)
  have Hlen := Lib.hid (fun w1 (g : Gr w w1) => length_any l A c w1 (hL.grow g) hc (hS.grow g) hsz)
  have Hal := Lib.hid (alive_any _ (hL.grow hg0))
  rw [hck] at Hchk Hlen
  have Hb := Lib.hid (heap_new w (.cells #[.string l.title, .int .i64 l.rate, .slice A l.evs.length c] 30))
  have Hg := Lib.hid hg0
  have HM := Lib.hid hm
  have HS := Lib.hid hS
  have HT := Lib.hid (may_timed hm)
  have HL := Lib.hid hL
  have Hsz := Lib.hid hsz
  have hsum : sumX l.evs = lenSum l.evs := by rw [sumX_len, headFade_zero hm]; omega
  have hr := lenSum_range l.evs (may_timed hm)
  have Hz := Lib.hid (lenSum_zero hm)
  obtain ⟨N, hN⟩ : ∃ N, lenSum l.evs = N := ⟨_, rfl⟩
  rw [hN] at hsum hr Hz
  have HN := Lib.hid hN
  have Hsum := Lib.hid hsum
  clear hg0 hck hL hS hsz hm hsum hN
  obtain ⟨title, rate, evs⟩ := l
  obtain ⟨n, hn⟩ : ∃ n, evs.length = n := ⟨_, rfl⟩
  simp only [hn] at Hchk Hlen Hg Hal Hb Hz HN Hsum hc hmany hr HT ⊢
  have Hn := Lib.hid hn
  clear hn
  go_enter Tryz.func6, Tryz.ntmps6
  go_wp2_with fail
  refine Hal.out.mono ?_
  rintro r w1 ⟨rfl, hg1⟩
  have hG1 := Hg.out.trans hg1
  have hb1 := (hg1.below.block _ (Array.getElem?_eq_some_iff.1 Hb.out).1).trans Hb.out
  obtain ⟨c0, c1, c2, cf⟩ := cells3 hb1
  have HG1 := Lib.hid hG1
  have Hb1 := Lib.hid hb1
  clear hg1 hG1 hb1
  go_wp2_with fail
  refine (Hchk.out _ HG1.out).mono ?_
  rintro r w2 ⟨⟨v, rfl, hv⟩, hg2⟩
  obtain rfl : v = .nilIface := hv
  have hG2 := HG1.out.trans hg2
  have hb2 := (hg2.below.block _ (Array.getElem?_eq_some_iff.1 Hb1.out).1).trans Hb1.out
  clear c0 c1 c2 cf
  obtain ⟨c0, c1, c2, cf⟩ := cells3 hb2
  have HG2 := Lib.hid hG2
  have Hb2 := Lib.hid hb2
  clear hg2 hG2 hb2
  go_wp2_with fail
  refine (Hlen.out _ HG2.out).mono ?_
  rintro r w3 ⟨hend, hg3⟩
  obtain rfl : r = .returned (.tuple #[.int .i64 (lenSum evs), .nilIface]) := hend
  rw [HN.out]
  have hG3 := HG2.out.trans hg3
  have hb3 := (hg3.below.block _ (Array.getElem?_eq_some_iff.1 Hb2.out).1).trans Hb2.out
  clear c0 c1 c2 cf
  have HG3 := Lib.hid hG3
  have Hb3 := Lib.hid hb3
  clear hg3 hG3 hb3
  go_wp2
  go_quiet (fail)
  go_wp2
  go_loopg [9, 10] (n + 1) (fun g v u wx => Gr w wx ∧ wx.heap[w.heap.size]? = some (.cells #[.string title, .int .i64 rate, .slice A n c] 30 (0, 0)) ∧ ∃ (k : Nat) (s : Int), k ≤ n ∧ n - k < g ∧ v = .int .i64 s ∧ u = .int .i64 k ∧ Hid (s + sumX (evs.drop k) = N) ∧ -20000000 * (k : Int) ≤ s ∧ s ≤ 20000000 * (k : Int))
  case atStart => exact ⟨HG3.out.drewN _, Hb3.out, 0, 0, by omega, by omega, rfl, rfl, Lib.hid (by rw [List.drop_zero, Hsum.out]; omega), by omega, by omega⟩
  case round =>
    obtain ⟨hGx, hBx, k, s, hkn, hkg, rfl, rfl, HK, hs1, hs2⟩ := hrel
    obtain ⟨g, rfl⟩ : ∃ g, gk = g + 1 := ⟨gk - 1, by omega⟩
    obtain ⟨c0, c1, c2, cf⟩ := cells3 hBx
    have HGx := Lib.hid hGx
    have HBx := Lib.hid hBx
    clear hGx hBx
    by_cases hlt : k < n
    · obtain ⟨ev, hev⟩ : ∃ ev, evs[k]? = some ev := by
        rw [List.getElem?_eq_getElem (by rw [Hn.out]; exact hlt)]; exact ⟨_, rfl⟩
      obtain ⟨b, o, rfl, hcells⟩ : ∃ b o, A = some ⟨b, o, none⟩ ∧ ∀ k e, evs[k]? = some e → EvAt w b o k e := by
        rcases HS.out with h0 | h1
        · rw [h0] at hev; cases hev
        · exact h1
      obtain ⟨-, q1, q2, q3, -⟩ := (hcells k ev hev).grow HGx.out
      have hf := each_frames HM.out (split_at hev)
      have hst := sumX_take evs k ev hev
      have ht := HT.out ev (List.mem_of_getElem? hev)
      have hk0 : (0 : Int) ≤ (k : Int) := by omega
      have hk1 : (k : Int) < (n : Int) := by omega
      have hrest := HK.out
      rw [hst] at hrest
      have Hrest := Lib.hid hrest
      have hsumr := sumX_pos HM.out (evs.drop (k + 1)) (evs.take (k + 1)) (by rw [List.take_append_drop])
      clear hst hrest HK
      obtain ⟨⟨⟨i0, i1⟩, o0, o1⟩, f0, f1⟩ := ht
      obtain ⟨x, hx⟩ : ∃ x, ev.o - ev.i = x := ⟨_, rfl⟩
      have hwx : IntKind.i64.wrap (ev.o - ev.i) = x := by rw [← hx]; exact IntWalk.i64_in _ (by omega)
      by_cases hlt2 : k + 1 < n
      · obtain ⟨ev2, hev2⟩ : ∃ ev, evs[k + 1]? = some ev := by
          rw [List.getElem?_eq_getElem (by rw [Hn.out]; exact hlt2)]; exact ⟨_, rfl⟩
        obtain ⟨-, -, -, p3, -⟩ := (hcells (k + 1) ev2 hev2).grow HGx.out
        have ht2 := (HT.out ev2 (List.mem_of_getElem? hev2)).2
        have hhead : headFade (evs.drop (k + 1)) = ev2.fade := by
          have hlt3 := (List.getElem?_eq_some_iff.1 hev2).1
          have : evs[k + 1] = ev2 := (List.getElem?_eq_some_iff.1 hev2).2
          rw [List.drop_eq_getElem_cons hlt3, headFade, this]
        rw [hhead, hx] at hf
        have hre := Hrest.out
        rw [hhead, hx] at hre
        have Hre := Lib.hid hre
        have Hx := Lib.hid hx
        have Hcells := Lib.hid hcells
        obtain ⟨y, hy⟩ : ∃ y, x - ev2.fade = y := ⟨_, rfl⟩
        have hyb : -200 ≤ y ∧ y ≤ 20000000 := by omega
        rw [hy] at hf
        have hre := Hre.out
        rw [hy] at hre
        have Hre2 := Lib.hid hre
        have hk2 : (0 : Int) ≤ (k : Int) + 1 := by omega
        have hk3 : (k : Int) + 1 < (n : Int) := by omega
        have hk4 : ((k : Int) + 1).toNat = k + 1 := by omega
        obtain ⟨hf1, hf2, -⟩ := hf
        clear hx hhead hre Hre Hrest hev hev2 hcells
        go_wp2
        go_quiet (fail)
        go_wp2
        go_roundg g
        case measure => omega
        case rel =>
          refine ⟨HGx.out.drewN _, HBx.out, k + 1, s + y, by omega, by omega, rfl, by go_num, Lib.hid ?_, by omega, by omega⟩
          have := Hre2.out
          omega
      · have hkn1 : k + 1 = n := by omega
        have hdr : evs.drop (k + 1) = [] := List.drop_of_length_le (by rw [Hn.out]; omega)
        rw [hdr] at hf
        have hre := Hrest.out
        rw [hdr, hx] at hre
        simp only [headFade, sumX, Int.sub_zero, Int.add_zero] at hre hf
        rw [hx] at hf
        have Hre := Lib.hid hre
        have hk2 : ¬ ((k : Int) + 1 < (n : Int)) := by omega
        obtain ⟨hf1, hf2, -⟩ := hf
        have Hx := Lib.hid hx
        have hxb : -200 ≤ x ∧ x ≤ 20000000 := by omega
        clear hx hdr hre Hrest hev hcells hkn1
        go_wp2
        go_quiet (fail)
        go_wp2
        go_roundg g
        case measure => omega
        case rel =>
          have hkn1 : k + 1 = n := by omega
          refine ⟨HGx.out.drewN _, HBx.out, k + 1, s + x, by omega, by omega, rfl, by go_num, Lib.hid ?_, by omega, by omega⟩
          rw [List.drop_of_length_le (by rw [Hn.out]; omega), sumX]
          have := Hre.out
          omega
    · obtain rfl : k = n := by omega
      have hsN : s = N := by have := HK.out; rw [List.drop_of_length_le (by rw [Hn.out]; omega), sumX] at this; omega
      subst hsN
      by_cases hn2 : k < 2
      · by_cases hk0 : k = 0
        · subst hk0
          have h0 : s = 0 := Hz.out.2 rfl
          subst h0
          go_wp2
          go_ret
          exact ⟨rfl, HGx.out⟩
        · obtain rfl : k = 1 := by omega
          have h0 : (s == 0) = false := beq_eq_false_iff_ne.2 (fun h => by have := Hz.out.1 h; omega)
          go_wp2
          go_ret
          exact ⟨rfl, HGx.out⟩
      · have hpos : (s == 0) = false := beq_eq_false_iff_ne.2 (fun h => by have := Hz.out.1 h; omega)
        have hk0 : ((k : Int) == 0) = false := beq_eq_false_iff_ne.2 (by omega)
        have hk2 : ¬ ((k : Int) < 2) := by omega
        have hpk := pick_any at_ (k - 1) wr (by omega) (by omega) hat
        rw [show ((k - 1 : Nat) : Int) = (k : Int) - 1 by omega] at hpk
        go_wp2_with fail
        refine hpk.mono ?_
        rintro r wp ⟨⟨q, hq, rfl⟩, rfl⟩
        clear hpk
        obtain ⟨b, o, rfl, hcells⟩ : ∃ b o, A = some ⟨b, o, none⟩ ∧ ∀ k e, evs[k]? = some e → EvAt w b o k e := by
          rcases HS.out with h0 | h1
          · have := Hn.out; rw [h0] at this; simp at this; omega
          · exact h1
        have Hcells := Lib.hid hcells
        clear hcells
        have hgA := HGx.out.alloc (.cells #[] 51)
        have hEm := heap_new wp (.cells #[] 51)
        have hnews := evsAt_cells (w := wp.alloc (.cells #[] 51)) (fun k e he => (Hcells.out k e he).grow hgA)
        have hBA := heap_old HBx.out (.cells #[] 51)
        have c2' := old_alloc c2 (.cells #[] 51)
        obtain ⟨i0, hi, hz0, hz1, hz2⟩ := info_parts info51
        have hwlt : w.heap.size < wp.heap.size := (Array.getElem?_eq_some_iff.1 HBx.out).1
        have hcl : (evsCells evs).length = k * 5 := by rw [evsCells_length, Hn.out]
        have HgA := Lib.hid hgA
        have HBA := Lib.hid hBA
        have HEm := Lib.hid (own_empty (B := w.heap.size) hEm (Nat.le_of_lt hwlt))
        have Hnews := Lib.hid hnews
        have Hcl := Lib.hid hcl
        clear hgA hBA hEm hnews hcl c0 c1 c2 cf
        go_wp2_with (at_builtin; refine wpList_append_lies _ rfl (.tmp 110) (.tmp 112) 28 rfl w.heap.size 51 i0 (.agg #[.string ⟨#[]⟩, .int .i64 0, .int .i64 0, .int .i64 0, .string ⟨#[]⟩]) 5 56 Tryz.underlying28 hi hz0 hz1 hz2 rfl (by decide) _ 0 [] rfl HEm.out ⟨b, o, none⟩ k c (evsCells evs) rfl Hcl.out Hnews.out (evsCells_one' evs) (by omega) ?c3 ?c4 ?c5 (wp.heap.size + 1) (by simp) ?_)
        case c3 => unfold maxLen; omega
        case c4 => omega
        case c5 => simp; omega
        intro g cap w4 hown hgrow _ hglt
        have hG4 : Gr w w4 := HgA.out.grown hgrow (fun j hj => by simp only [Value.ownBlock, Option.some.injEq] at hj; omega)
        have hB4 := (hgrow.block w.heap.size (by simp; omega) (by simp only [Value.ownBlock, ne_eq, Option.some.injEq]; omega)).trans HBA.out
        obtain ⟨c0, c1, c2, cf⟩ := cells3 hB4
        have hgw := (own_ge hown g rfl).1
        have hgcap := own_cap hown
        obtain ⟨kk, hkk⟩ : ∃ kk, 1 + q = kk := ⟨_, rfl⟩
        have hkq : (1 : Int) + (q : Int) = (kk : Int) := by omega
        have hkq2 : (kk : Int) - 1 = (q : Int) := by omega
        obtain ⟨p, hp⟩ : ∃ p, evs[q]? = some p := ⟨_, List.getElem?_eq_getElem (by rw [Hn.out]; omega)⟩
        obtain ⟨e, he⟩ : ∃ e, evs[kk]? = some e := ⟨_, List.getElem?_eq_getElem (by rw [Hn.out]; omega)⟩
        have hEvs : ∀ j x, evs[j]? = some x → EvAt w4 g 0 j x := by
          rcases evsAt_own hown with h0 | ⟨b', o', h0, h1⟩
          · rw [h0] at hp; simp at hp
          · cases h0; exact h1
        obtain ⟨-, p1, p2, p3, -⟩ := hEvs q p hp
        obtain ⟨-, e1, e2, e3, -⟩ := hEvs kk e he
        simp only [Nat.zero_add] at p1 p2 p3 e1 e2 e3
        have htp := HT.out p (List.mem_of_getElem? hp)
        have hte := HT.out e (List.mem_of_getElem? he)
        obtain ⟨⟨⟨pi0, pi1⟩, po0, po1⟩, pf0, pf1⟩ := htp
        obtain ⟨⟨⟨ei0, ei1⟩, eo0, eo1⟩, ef0, ef1⟩ := hte
        have Hpe := Lib.hid (And.intro hp he)
        have HEvs := Lib.hid hEvs
        have HG4 := Lib.hid hG4
        have HB4 := Lib.hid hB4
        have Hown := Lib.hid hown
        obtain ⟨X, hX⟩ : ∃ X, e.o - e.i = X := ⟨_, rfl⟩
        obtain ⟨Y, hY⟩ : ∃ Y, p.o - p.i = Y := ⟨_, rfl⟩
        obtain ⟨Z, hZ⟩ : ∃ Z, Y - p.fade = Z := ⟨_, rfl⟩
        have w1' : IntKind.i64.wrap (e.o - e.i) = X := by rw [← hX]; exact IntWalk.i64_in _ (by omega)
        have w2' : IntKind.i64.wrap (p.o - p.i) = Y := by rw [← hY]; exact IntWalk.i64_in _ (by omega)
        have w3' : IntKind.i64.wrap (Y - p.fade) = Z := by rw [← hZ]; exact IntWalk.i64_in _ (by omega)
        have w4' : IntKind.i64.wrap ((kk : Int) - 1) = (q : Int) := by rw [← hkq2]; exact IntWalk.i64_in _ (by omega)
        have hb1 : (0 : Int) ≤ (kk : Int) := by omega
        have hb2 : (kk : Int) < (k : Int) := by omega
        have hb3 : (0 : Int) ≤ (q : Int) := by omega
        have hb4 : (q : Int) < (k : Int) := by omega
        have HXYZ := Lib.hid (And.intro hX (And.intro hY hZ))
        clear hown hgrow hG4 hB4 hEvs hp he hkk hX hY hZ HgA HBA HEm Hnews Hcl
        go_wp2
        go_quiet (fail)
        obtain ⟨mo, hmo⟩ : ∃ mo : Int, (if Z < if X < 100 then X else 100 then Z else if X < 100 then X else 100) = mo := ⟨_, rfl⟩
        rw [hmo]
        have hmin : mo = min (min 100 (e.o - e.i)) (p.o - p.i - p.fade) := by
          rw [HXYZ.out.1, HXYZ.out.2.1, HXYZ.out.2.2, ← hmo]
          clear hmo c0 c1 c2 cf p1 p2 p3 e1 e2 e3 w1' w2' w3' w4' hkq hkq2
          simp only [Int.min_def]
          repeat' split
          all_goals omega
        have hsp := over_split Hpe.out.1 (by rw [show q + 1 = kk by omega]; exact Hpe.out.2)
        obtain ⟨hck2, hmo0, hmo1⟩ := check_over HM.out hsp mo hmin
        rw [← over_set (mo + 1) Hpe.out.1 (by rw [show q + 1 = kk by omega]; exact Hpe.out.2), show q + 1 = kk by omega] at hck2
        rw [show (evs.take q).length + 1 = kk by rw [List.length_take, Hn.out]; omega] at hck2
        have hfz : w4.frozen? ⟨g, kk * 5 + 3, none⟩ = false := by
          rcases Hown.out.2 with ⟨h0, _⟩ | ⟨g', c', cur, h0, _, hh, _⟩
          · cases h0
          · cases h0; exact blk_free hh _
        have hG5 : Gr w ((w4.drewN nq).setCell ⟨g, kk * 5 + 3, none⟩ (.int .i64 (mo + 1))) := (HG4.out.drewN _).set hgw _
        have hEvs5 := over_at (w := w4.drewN nq) (g := g) (mo + 1) HEvs.out Hpe.out.2
        have hlen5 : (evs.set kk { e with fade := mo + 1 }).length = k := by rw [List.length_set, Hn.out]
        have hchk5 := check_any ⟨title, rate, evs.set kk { e with fade := mo + 1 }⟩ (some ⟨g, 0, none⟩) cap _ (HL.out.grow hG5) (by simp only [hlen5]; exact hgcap) (.inr ⟨g, 0, rfl, hEvs5⟩) (by
          intro x hx
          rcases List.mem_or_eq_of_mem_set hx with h | rfl
          · exact Hsz.out x h
          · exact Hsz.out e (List.mem_of_getElem? Hpe.out.2))
        rw [hck2] at hchk5
        simp only [hlen5] at hchk5
        have Hchk5 := Lib.hid hchk5
        have HG5 := Lib.hid hG5
        clear hmo hmin hsp hck2 hG5 hEvs5 hlen5 hchk5 p1 p2 p3 e1 e2 w1' w2' w3' w4'
        go_wp2_with fail
        refine Hchk5.out.mono ?_
        rintro r w6 ⟨⟨v, rfl, hv⟩, hg6⟩
        obtain ⟨b6, rfl, hb6, hh6⟩ := hv
        have HG6 := Lib.hid (HG5.out.trans hg6)
        have hev := evented_any b6 kk 195 w6 (HL.out.grow HG6.out) (by omega) (by omega) (by omega) (blk_cell hh6 0) (blk_cell hh6 1)
        have Hev := Lib.hid hev
        clear hev hh6 hg6 hb6 c0 c1 c2 cf e3 hfz
        go_wp2_with fail
        refine Hev.out.mono ?_
        rintro r w7 ⟨rfl, hg7⟩
        have HG7 := Lib.hid (HG6.out.trans hg7)
        clear hg7
        go_wp2
        go_ret
        exact ⟨rfl, HG7.out⟩

/-- CutsLengths at every list. -/
theorem lengths_any (l : CL) (A : Option Addr) (c : Nat) (at_ : Int) (w : World) (hL : Laid w) (hc : l.evs.length ≤ c) (hS : EvsAt w A l.evs) (hsz : ∀ e ∈ l.evs, e.reel.size ≤ maxLen ∧ e.note.size ≤ maxLen) (hat : -9223372036854775808 ≤ at_ ∧ at_ ≤ 9223372036854775807) :
    Calls Tryz.prog 6 #[.agg #[.string l.title, .int .i64 l.rate, .slice A l.evs.length c], .int .i64 at_] w fun r w' => r = .returned (.bool true) ∧ Gr w w' := by
  cases h : check l with
  | none => exact lengths_good l A c at_ w h hL hc hS hsz hat
  | some p => obtain ⟨k, e⟩ := p; exact lengths_bad l A c at_ w k e h hL hc hS hsz
end Go.Proofs.Cuts
