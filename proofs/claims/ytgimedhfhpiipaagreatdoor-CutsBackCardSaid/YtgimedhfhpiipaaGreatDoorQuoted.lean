/-
  cuts.quoted of a valid text. Conditions: the text is valid and has at most 20000 bytes.
-/
import Derived.Test.YtgimedhfhpiipaaGreatDoorQuote2
import Derived.Test.YtgimedhfhpiipaaGreatDoorPWords
import Derived.Test.YtgimedhfhpiipaaGreatDoorWords
import Derived.Lib.OwnKind
namespace Go.Proofs.Cuts
open Go.RowKit

/-- What the loop keeps. -/
structure TInv (w0 wr : World) (s : ByteArray) (p : Nat) (v : Value) (out : List UInt8) : Prop where
  gr : Gr w0 wr
  it : wr.heap[w0.heap.size + 1]? = some (.stringIter s p)
  own : wr.ownsRow w0.heap.size 5 1 v out.length (Lib.byteCells out)
theorem TInv.size {w0 wr : World} {s : ByteArray} {p : Nat} {v : Value} {out : List UInt8} (h : TInv w0 wr s p v out) : w0.heap.size + 2 ≤ wr.heap.size := by
  have := (Array.getElem?_eq_some_iff.1 h.it).1
  omega
theorem own_notIter {w : World} {B R n p : Nat} {v : Value} {xs : List Value} {s : ByteArray} (h : w.ownsRow B 5 1 v n xs) (hR : w.heap[R]? = some (.stringIter s p)) : some R ≠ v.ownBlock := by
  intro he
  obtain ⟨c, fz, hc⟩ := Lib.ownsRow_kind h R he.symm
  rw [hR] at hc
  cases hc
theorem TInv.iter {w0 wr : World} {s : ByteArray} {p : Nat} {v : Value} {out : List UInt8} (h : TInv w0 wr s p v out) (q : Nat) : TInv w0 (wr.iterAt (w0.heap.size + 1) s q) s q v out := by
  refine ⟨h.gr.iterAt (by omega) s q, Lib.iterAt_heap wr _ s p q h.it, ⟨h.own.1, ?_⟩⟩
  have hn := own_notIter h.own h.it
  rcases h.own.2 with hn' | ⟨g, cap, cur, hv, hb, hg, rest⟩
  · exact .inl hn'
  · refine .inr ⟨g, cap, cur, hv, hb, ?_, rest⟩
    rw [Lib.iterAt_other _ _ _ _ _ (by rintro rfl; exact hn (by rw [hv]; rfl))]
    exact hg
theorem TInv.grown {w0 wr w' : World} {s : ByteArray} {p : Nat} {v v' : Value} {out out' : List UInt8} (h : TInv w0 wr s p v out) {o : Obj} (hg : (wr.alloc o).grownBy w' v.ownBlock)
    (hown : w'.ownsRow w0.heap.size 5 1 v' out'.length (Lib.byteCells out')) : TInv w0 w' s p v' out' :=
  ⟨(h.gr.alloc o).grown hg (fun k hk => (own_ge h.own k hk).1), (hg.block _ (by have := h.size; simp; omega) (own_notIter h.own h.it)).trans (heap_old h.it o), hown⟩

/-- One step of a valid text. -/
theorem vt_step {l : List UInt8} (h : Vt l) (hne : l ≠ []) : (∃ c t, l = c :: t ∧ c.toNat < 128 ∧ Lib.decodeL l = (c.toNat, 1) ∧ Vt t) ∨
    (∃ r x t, l = r ++ t ∧ 128 ≤ x ∧ Lib.decodeL l = (x, r.length) ∧ Lib.encodeRune (x : Int) = r ∧ (∀ b ∈ r, 128 ≤ b.toNat) ∧ Vt t) := by
  cases h with
  | nil => exact absurd rfl hne
  | asc c t hc ht => exact .inl ⟨c, t, rfl, hc, Lib.decodeL_ascii c t hc, ht⟩
  | run r x t h1 h2 h3 h4 h5 ht => exact .inr ⟨r, x, t, rfl, h3, h5 t, h4, h1, ht⟩

set_option maxRecDepth 100000 in
set_option maxHeartbeats 4000000 in
theorem quoted_any (s : ByteArray) (w : World) (hv : Vt (bl s)) (hs : s.size ≤ 20000) :
    Calls Tryz.prog 50 #[.string s] w fun e w' => e = .returned (.string (ba (34 :: (esc (bl s) ++ [34])))) ∧ Gr w w' := by
  obtain ⟨i0, hi, hz0, hz1, hz2⟩ := info_parts info5
  obtain ⟨ANS, hANS⟩ : ∃ a, esc (bl s) = a := ⟨_, rfl⟩
  rw [hANS]
  have HA := Lib.hid hANS
  have HV := Lib.hid hv
  clear hANS hv
  have hown0 : ((w.alloc (.cells #[.int .u8 34] 5)).alloc (.stringIter s 0)).ownsRow w.heap.size 5 1 (.slice (some ⟨w.heap.size, 0, none⟩) 1 1) ([34] : List UInt8).length (Lib.byteCells [34]) :=
    ⟨rfl, .inr ⟨w.heap.size, 1, #[.int .u8 34], rfl, Nat.le_refl _, heap_old (heap_new _ _) _, Nat.le_refl _, by decide, rfl, rfl⟩⟩
  have H0 : Hid (TInv w ((w.alloc (.cells #[.int .u8 34] 5)).alloc (.stringIter s 0)) s 0 (.slice (some ⟨w.heap.size, 0, none⟩) 1 1) [34]) :=
    Lib.hid ⟨((Gr.refl w).alloc _).alloc _, heap_new_at (by simp) _, hown0⟩
  clear hown0
  go_enter Tryz.func50, Tryz.ntmps50
  go_wp2
  go_loopg [3] (s.size + 1) (fun g v wx => ∃ (p : Nat) (out : List UInt8), p ≤ s.size ∧ s.size - p < g ∧ out.length ≤ 1 + 2 * p ∧ TInv w wx s p v out ∧ Hid (out ++ esc ((bl s).drop p) = 34 :: ANS) ∧ Hid (Vt ((bl s).drop p)))
  case atStart => exact ⟨0, [34], by omega, by omega, by simp, H0.out, Lib.hid (by rw [List.drop_zero, HA.out]; rfl), Lib.hid HV.out⟩
  case round =>
    obtain ⟨p, out, hp, hgk, hol, hQ, HK, HVp⟩ := hrel
    obtain ⟨g, rfl⟩ : ∃ g, gk = g + 1 := ⟨gk - 1, by omega⟩
    by_cases hlt : p < s.size
    · have hne := bl_drop_ne hlt
      have hst := vt_step HVp.out hne
      have hwd : 1 ≤ (Utf8.decode s p).2 := by rw [← decodeL_at]; exact Lib.decodeL_width _
      have hle : p + (Utf8.decode s p).2 ≤ s.size := by
        have := Lib.decodeL_le _ hne
        rw [decodeL_at, List.length_drop, bl_length'] at this
        omega
      have hmax : (Utf8.decode s p).1 ≤ 1114111 := by rw [← decodeL_at]; exact Lib.decodeL_rune _
      have hnx : ∀ ty, (Instr.next (.pointer (some ⟨w.heap.size + 1, 0, none⟩)) true ty).run Tryz.prog wr = _ := fun ty => Lib.run_next_any_at (P := Tryz.prog) wr (w.heap.size + 1) s p ty hQ.it hlt
      have hQ2 := hQ.iter (p + (Utf8.decode s p).2)
      obtain ⟨W, hW⟩ : ∃ W, wr.iterAt (w.heap.size + 1) s (p + (Utf8.decode s p).2) = W := ⟨_, rfl⟩
      rw [decodeL_at] at hst
      obtain ⟨c, hc⟩ : ∃ c, (Utf8.decode s p).1 = c := ⟨_, rfl⟩
      obtain ⟨wd, hwdv⟩ : ∃ c, (Utf8.decode s p).2 = c := ⟨_, rfl⟩
      have hcw : Utf8.decode s p = (c, wd) := by rw [← hc, ← hwdv]
      rw [hcw] at hst
      rw [hW] at hQ2 hnx
      rw [hc] at hnx hmax
      rw [hwdv] at hwd hle hQ2
      have Hdrop := Lib.hid (show ((bl s).drop p).drop wd = (bl s).drop (p + wd) from List.drop_drop ..)
      have Hst := Lib.hid hst
      clear hW hc hwdv hcw hst hne hQ
      by_cases h34 : c = 34 ∨ c = 92
      · rcases h34 with rfl | rfl
        · go_wp2_with (at_builtin; refine wpList_append_own _ rfl (.tmp 19) (.tmp 22) 160 rfl w.heap.size 5 i0 (.int .u8 0) 1 1 Tryz.underlying160 hi hz0 hz1 hz2 rfl (by decide) _ _ _ rfl (hQ2.own.alloc _) ⟨W.heap.size, 0, none⟩ 2 2 [.int .u8 92, .int .u8 34] rfl rfl ?c1 ?c2 ?c3 ?c4 ?c5 ?_)
          case c1 => exact fun j u hj => cells_new rfl _ _ j u hj
          case c2 => intro u hu; simp only [List.mem_cons, List.not_mem_nil, or_false] at hu; rcases hu with rfl | rfl <;> rfl
          case c3 => unfold maxLen; omega
          case c4 => omega
          case c5 => have := hQ2.gr.size; simp; omega
          intro v' w2 hown' hg _
          have hQ3 : TInv w w2 s (p + wd) v' (out ++ [92, 34]) := hQ2.grown hg (by rw [List.length_append, byteCells_append]; exact hown')
          have HQ3 := Lib.hid hQ3
          clear hg hown' hQ2 hQ3
          go_wp2
          go_roundg g
          case measure => omega
          case rel =>
            refine ⟨p + wd, out ++ [92, 34], hle, by omega, by simp only [List.length_append, List.length_cons, List.length_nil]; omega, HQ3.out, Lib.hid ?_, Lib.hid ?_⟩
            · rcases Hst.out with ⟨c0, t, hl, _, hd, hvt⟩ | ⟨r, x, t, hl, hx, hd, _⟩
              · have hc0 : c0 = 34 := UInt8.toNat_inj.1 (Prod.mk.inj hd).1.symm
                have hwd1 : wd = 1 := (Prod.mk.inj hd).2
                rw [← Hdrop.out, hl, hwd1, ← HK.out, hl, hc0]
                simp [esc]
              · have := (Prod.mk.inj hd).1; omega
            · rcases Hst.out with ⟨c0, t, hl, _, hd, hvt⟩ | ⟨r, x, t, hl, hx, hd, _⟩
              · have hwd1 : wd = 1 := (Prod.mk.inj hd).2
                rw [← Hdrop.out, hl, hwd1]; exact hvt
              · have := (Prod.mk.inj hd).1; omega
        · go_wp2_with (at_builtin; refine wpList_append_own _ rfl (.tmp 19) (.tmp 22) 160 rfl w.heap.size 5 i0 (.int .u8 0) 1 1 Tryz.underlying160 hi hz0 hz1 hz2 rfl (by decide) _ _ _ rfl (hQ2.own.alloc _) ⟨W.heap.size, 0, none⟩ 2 2 [.int .u8 92, .int .u8 92] rfl rfl ?d1 ?d2 ?d3 ?d4 ?d5 ?_)
          case d1 => exact fun j u hj => cells_new rfl _ _ j u hj
          case d2 => intro u hu; simp only [List.mem_cons, List.not_mem_nil, or_false] at hu; rcases hu with rfl | rfl <;> rfl
          case d3 => unfold maxLen; omega
          case d4 => omega
          case d5 => have := hQ2.gr.size; simp; omega
          intro v' w2 hown' hg _
          have hQ3 : TInv w w2 s (p + wd) v' (out ++ [92, 92]) := hQ2.grown hg (by rw [List.length_append, byteCells_append]; exact hown')
          have HQ3 := Lib.hid hQ3
          clear hg hown' hQ2 hQ3
          go_wp2
          go_roundg g
          case measure => omega
          case rel =>
            refine ⟨p + wd, out ++ [92, 92], hle, by omega, by simp only [List.length_append, List.length_cons, List.length_nil]; omega, HQ3.out, Lib.hid ?_, Lib.hid ?_⟩
            · rcases Hst.out with ⟨c0, t, hl, _, hd, hvt⟩ | ⟨r, x, t, hl, hx, hd, _⟩
              · have hc0 : c0 = 92 := UInt8.toNat_inj.1 (Prod.mk.inj hd).1.symm
                have hwd1 : wd = 1 := (Prod.mk.inj hd).2
                rw [← Hdrop.out, hl, hwd1, ← HK.out, hl, hc0]
                simp [esc]
              · have := (Prod.mk.inj hd).1; omega
            · rcases Hst.out with ⟨c0, t, hl, _, hd, hvt⟩ | ⟨r, x, t, hl, hx, hd, _⟩
              · have hwd1 : wd = 1 := (Prod.mk.inj hd).2
                rw [← Hdrop.out, hl, hwd1]; exact hvt
              · have := (Prod.mk.inj hd).1; omega
      · have n34 : ((c : Int) == 34) = false := beq_eq_false_iff_ne.2 (by omega)
        have n92 : ((c : Int) == 92) = false := beq_eq_false_iff_ne.2 (by omega)
        have Hn := Lib.hid h34
        clear h34
        by_cases h10 : c = 10
        · subst h10
          clear n34 n92
          go_wp2_with (at_builtin; refine wpList_append_own _ rfl (.tmp 26) (.tmp 27) 160 rfl w.heap.size 5 i0 (.int .u8 0) 1 1 Tryz.underlying160 hi hz0 hz1 hz2 rfl (by decide) _ _ _ rfl (hQ2.own.alloc _) ⟨W.heap.size, 0, none⟩ 2 2 [.int .u8 92, .int .u8 110] rfl rfl ?f1 ?f2 ?f3 ?f4 ?f5 ?_)
          case f1 => exact fun j u hj => cells_new rfl _ _ j u hj
          case f2 => intro u hu; simp only [List.mem_cons, List.not_mem_nil, or_false] at hu; rcases hu with rfl | rfl <;> rfl
          case f3 => unfold maxLen; omega
          case f4 => omega
          case f5 => have := hQ2.gr.size; simp; omega
          intro v' w2 hown' hg _
          have hQ3 : TInv w w2 s (p + wd) v' (out ++ [92, 110]) := hQ2.grown hg (by rw [List.length_append, byteCells_append]; exact hown')
          have HQ3 := Lib.hid hQ3
          clear hg hown' hQ2 hQ3
          go_wp2
          go_roundg g
          case measure => omega
          case rel =>
            refine ⟨p + wd, out ++ [92, 110], hle, by omega, by simp only [List.length_append, List.length_cons, List.length_nil]; omega, HQ3.out, Lib.hid ?_, Lib.hid ?_⟩
            · rcases Hst.out with ⟨c0, t, hl, _, hd, hvt⟩ | ⟨r, x, t, hl, hx, hd, _⟩
              · have hc0 : c0 = 10 := UInt8.toNat_inj.1 (Prod.mk.inj hd).1.symm
                have hwd1 : wd = 1 := (Prod.mk.inj hd).2
                rw [← Hdrop.out, hl, hwd1, ← HK.out, hl, hc0]
                simp [esc]
              · have := (Prod.mk.inj hd).1; omega
            · rcases Hst.out with ⟨c0, t, hl, _, hd, hvt⟩ | ⟨r, x, t, hl, hx, hd, _⟩
              · have hwd1 : wd = 1 := (Prod.mk.inj hd).2
                rw [← Hdrop.out, hl, hwd1]; exact hvt
              · have := (Prod.mk.inj hd).1; omega
        · have n10 : ((c : Int) == 10) = false := beq_eq_false_iff_ne.2 (by omega)
          have Hn10 := Lib.hid h10
          clear h10
          go_wp2_with fail
          refine (Tryz.utf8_AppendRune_plain w.heap.size _ out.length (Lib.byteCells out) c (by omega) (by omega) _ hQ2.own (by omega) hQ2.gr.size).mono ?_
          rintro e w2 ⟨v', rfl, hown', o, hg⟩
          rw [Lib.runeCells_length, ← Lib.byteCells_encodeRune, ← byteCells_append, ← List.length_append] at hown'
          have hQ3 := hQ2.grown hg hown'
          have HQ3 := Lib.hid hQ3
          have h4 : (Lib.encodeRune (c : Int)).length ≤ 2 * wd := by
            rcases Hst.out with ⟨c0, t, hl, hlt0, hd, hvt⟩ | ⟨r, x, t, hl, hx, hd, he, _⟩
            · have h1 : c = c0.toNat := (Prod.mk.inj hd).1
              rw [h1, encodeRune_ascii c0 hlt0]; simp; omega
            · have h1 : c = x := (Prod.mk.inj hd).1
              have h2 : wd = r.length := (Prod.mk.inj hd).2
              rw [h1, he, h2]; omega
          clear hg hown' hQ2 hQ3
          go_wp2
          go_roundg g
          case measure => omega
          case rel =>
            refine ⟨p + wd, out ++ Lib.encodeRune (c : Int), hle, by omega, by rw [List.length_append]; omega, HQ3.out, Lib.hid ?_, Lib.hid ?_⟩
            · rcases Hst.out with ⟨c0, t, hl, hlt0, hd, hvt⟩ | ⟨r, x, t, hl, hx, hd, he, hb, hvt⟩
              · have h1 : c = c0.toNat := (Prod.mk.inj hd).1
                have hwd1 : wd = 1 := (Prod.mk.inj hd).2
                have e1 : ¬ (c0 = 34 ∨ c0 = 92) := by
                  rintro (e | e)
                  · exact Hn.out (.inl (by rw [h1, e]; rfl))
                  · exact Hn.out (.inr (by rw [h1, e]; rfl))
                have e2 : ¬ c0 = 10 := fun e => Hn10.out (by rw [h1, e]; rfl)
                rw [h1, encodeRune_ascii c0 hlt0, ← Hdrop.out, hl, hwd1, ← HK.out, hl, esc, if_neg e1, if_neg e2]
                simp
              · have h1 : c = x := (Prod.mk.inj hd).1
                have h2 : wd = r.length := (Prod.mk.inj hd).2
                rw [h1, he, ← Hdrop.out, hl, h2, List.drop_left, ← HK.out, hl, esc_run r t hb, List.append_assoc]
            · rcases Hst.out with ⟨c0, t, hl, hlt0, hd, hvt⟩ | ⟨r, x, t, hl, hx, hd, he, hb, hvt⟩
              · have hwd1 : wd = 1 := (Prod.mk.inj hd).2
                rw [← Hdrop.out, hl, hwd1]; exact hvt
              · have h2 : wd = r.length := (Prod.mk.inj hd).2
                rw [← Hdrop.out, hl, h2, List.drop_left]; exact hvt
    · have hnx : ∀ ty, (Instr.next (.pointer (some ⟨w.heap.size + 1, 0, none⟩)) true ty).run Tryz.prog wr = _ := fun ty => Lib.run_next_end_at (P := Tryz.prog) wr (w.heap.size + 1) s p ty hQ.it hlt
      have hfin : out = 34 :: ANS := by
        have := HK.out
        rw [List.drop_of_length_le (by rw [bl_length']; omega), esc, List.append_nil] at this
        exact this
      have Hfin := Lib.hid hfin
      have HQ := Lib.hid hQ
      clear hfin HK HVp hQ
      go_wp2_with (at_builtin; refine wpList_append_own _ rfl (.tmp 29) (.tmp 30) 160 rfl w.heap.size 5 i0 (.int .u8 0) 1 1 Tryz.underlying160 hi hz0 hz1 hz2 rfl (by decide) _ _ _ rfl (HQ.out.own.alloc _) ⟨wr.heap.size, 0, none⟩ 1 1 [.int .u8 34] rfl rfl ?e1 ?e2 ?e3 ?e4 ?e5 ?_)
      case e1 => exact fun j u hj => cells_new rfl _ _ j u hj
      case e2 => intro u hu; simp only [List.mem_cons, List.not_mem_nil, or_false] at hu; rcases hu with rfl; rfl
      case e3 => unfold maxLen; omega
      case e4 => omega
      case e5 => have := HQ.out.gr.size; simp; omega
      intro v' w2 hown' hg _
      have hQ3 := HQ.out.grown (out' := out ++ [34]) hg (by rw [List.length_append, byteCells_append]; exact hown')
      have hconv := own_string hQ3.own
      have HG := Lib.hid hQ3.gr
      clear hown' hg hQ3
      go_wp2
      go_ret
      exact ⟨by rw [Hfin.out]; rfl, HG.out⟩
end Go.Proofs.Cuts
