/-
  cuts.Parse, its loop over the lines. Conditions: the listed variables lie in the world.
-/
import Derived.Test.YtgimedhfhpiipaaGreatDoorParse1
namespace Go.Proofs.Cuts
open Go.RowKit

set_option maxRecDepth 100000 in
set_option maxHeartbeats 4000000 in
theorem parse_good (s : ByteArray) (w : World) (h : ¬ 20000 < s.size) (hu : unruly (bl s) = none) (hL : Laid w) : Calls Tryz.prog 9 #[.string s] w fun e w' => ParseEnd w.heap.size w' e (parse s) ∧ Gr w w' := by
  have hp : parse s = parseGo s.size (s.size + 1) (bl s) 0 none := by rw [parse, if_neg h, hu]
  rw [hp]
  obtain ⟨ANS, hANS⟩ : ∃ a, parseGo s.size (s.size + 1) (bl s) 0 none = a := ⟨_, rfl⟩
  rw [hANS]
  have HA := Lib.hid hANS
  clear hANS hp
  have d0 : decide (20000 < s.size) = false := decide_eq_false h
  have d1 : decide (20000 < (s.size : Int)) = false := decide_eq_false (by omega)
  have hs : s.size ≤ 20000 := by omega
  have hz := heap_new w (.cells #[.string ⟨#[]⟩, .int .i64 0, .slice none 0 0] 30)
  have hB := (Gr.refl w).alloc (.cells #[.string ⟨#[]⟩, .int .i64 0, .slice none 0 0] 30)
  have hun := unruly_any s _ (by unfold maxLen; omega) (hL.grow hB)
  rw [hu, show unrulyV none = -1 from rfl] at hun
  have Hun := Lib.hid hun
  have HL := Lib.hid hL
  clear hun hu h hL
  go_enter Tryz.func9, Tryz.ntmps9
  go_wp2_with fail
  refine Hun.out.mono ?_
  rintro e w1 ⟨rfl, hg1⟩
  have hz1 := (hg1.below.block _ (Array.getElem?_eq_some_iff.1 hz).1).trans hz
  have hG1 := hB.trans hg1
  go_wp2
  go_loopg [6, 7] (s.size + 1) (fun g v6 v7 wx => ∃ (c : Option CL) (p : Nat), PInv w w1.heap.size wx c ∧ v6 = .bool c.isSome ∧ v7 = .int .i64 p ∧ p ≤ s.size + 1 ∧ s.size - p < g ∧ Hid (parseGo s.size g ((bl s).drop p) p c = ANS))
  case atStart =>
    refine ⟨none, 0, ⟨hG1.alloc _, heap_old hz1 _, ⟨_, heap_new _ _, ⟨rfl, .inl ⟨rfl, rfl⟩⟩⟩, by decide, by intro e he; cases he⟩, rfl, rfl, by omega, by omega, Lib.hid HA.out⟩
  case round =>
    obtain ⟨c, p, hI, rfl, rfl, hp, hg, HK⟩ := hrel
    obtain ⟨g, rfl⟩ : ∃ g, gk = g + 1 := ⟨gk - 1, by omega⟩
    by_cases hlt : p < s.size
    · have d2 : decide ((p : Int) < (s.size : Int)) = true := decide_eq_true (by omega)
      have d3 : decide (p < s.size) = true := decide_eq_true hlt
      have hp1 : (p : Int) ≤ (s.size : Int) := by omega
      go_wp2_with fail
      refine (Tryz.strings_IndexByte _ _ _).mono ?_
      rintro e w2 ⟨rfl, rfl⟩
      have hib : ∃ (q : Nat) (i : Int), Lib.indexByte (s.extract p s.size).data.toList (Int.toNat 10).toUInt8 = i ∧ q = lineLen ((bl s).drop p) ∧ p + q ≤ s.size ∧ ((i = -1 ∧ p + q = s.size) ∨ i = q) := by
        have hx : (s.extract p s.size).data.toList = (bl s).drop p := bl_tail s p
        have hd : ((bl s).drop p).length = s.size - p := by rw [List.length_drop, bl_length]
        rw [hx]
        rcases indexByte_line ((bl s).drop p) with ⟨h1, h2⟩ | ⟨n, h1, h2, h3⟩
        · exact ⟨_, -1, h1, rfl, by omega, .inl ⟨rfl, by omega⟩⟩
        · exact ⟨_, n, h1, rfl, by omega, .inr (by rw [h2])⟩
      obtain ⟨q, i, hi, hq, hqs, hiq⟩ := hib
      rw [hi]
      have Hq := Lib.hid hq
      have HI := Lib.hid hI
      clear hq hi hI
      have Hiq := Lib.hid hiq
      have hi1 : -1 ≤ i ∧ i ≤ 20000 := by omega
      have hw : IntKind.i64.wrap ((p : Int) + i) = (p : Int) + i := IntWalk.i64_in _ (by omega)
      clear hiq
      go_upto_if 35 with fail
      go_cut [8] (fun v8 wx => v8 = .int .i64 ((p + q : Nat) : Int) ∧ wx = w2)
      case first =>
        rcases Hiq.out with ⟨rfl, hend⟩ | rfl
        · have d5 : decide ((p : Int) + -1 < (p : Int)) = true := decide_eq_true (by omega)
          go_wp2
          go_meet
          case rel => exact ⟨by rw [hend], rfl⟩
        · have d5 : decide ((p : Int) + (q : Int) < (p : Int)) = false := decide_eq_false (by omega)
          go_wp2
          go_meet
          case rel => exact ⟨by simp, rfl⟩
      case rest =>
        obtain ⟨rfl, rfl⟩ := hcut
        have hRn := heap_new wc (.cells #[.slice none 0 0, .int .i64 0] 64)
        have hRg := (Gr.refl wc).alloc (.cells #[.slice none 0 0, .int .i64 0] 64)
        have Hws := Lib.hid (words_any s p (p + q) (wc.alloc (.cells #[.slice none 0 0, .int .i64 0] 64)) (by omega) hqs hs)
        go_wp2_with fail
        rw [show ((p : Int) + (q : Int)) = ((p + q : Nat) : Int) by simp]
        refine Hws.out.mono ?_
        rintro e w3 ⟨⟨v, rfl, hown⟩, hg3⟩
        obtain ⟨WS, hWS⟩ : ∃ x, words (((bl s).take (p + q)).drop p) p = x := ⟨_, rfl⟩
        rw [hWS] at hown
        rw [hWS]
        have HWS := Lib.hid hWS
        clear hWS
        obtain ⟨ws, en⟩ := WS
        obtain ⟨A, cap, rfl⟩ : ∃ A cap, v = .slice A ws.length cap := by
          rcases Joins.ownsRow_forms hown with ⟨rfl, h0⟩ | ⟨g, cap, rfl⟩
          · exact ⟨none, 0, by rw [show ws.length = 0 from h0]⟩
          · exact ⟨_, _, rfl⟩
        have hR3 := (hg3.below.block _ (Array.getElem?_eq_some_iff.1 hRn).1).trans hRn
        obtain ⟨m, hm⟩ : ∃ m, ws.length = m := ⟨_, rfl⟩
        simp only at hown ⊢
        rw [hm] at hown ⊢
        have hlt3 := (Array.getElem?_eq_some_iff.1 hR3).1
        have hrd := rd_words (en := en) hR3 hm hown (by show wc.heap.size < _; simp)
        have hI3 := HI.out.gr' (hRg.trans hg3)
        have hk3 : Kp wc.heap.size w3 ((w3.setCell ⟨wc.heap.size, 0, none⟩ (.slice A m cap)).setCell ⟨wc.heap.size, 1, none⟩ (.int .i64 en)) := ((Kp.refl wc.heap.size w3).set (p := ⟨wc.heap.size, 0, none⟩) (.inr rfl) _).set (p := ⟨wc.heap.size, 1, none⟩) (.inr rfl) _
        have hI4 := hI3.kp hk3 hR3 HI.out.lt.1 (by have := HI.out.lt.2; omega)
        have hbs : ∀ y ∈ ws, y.text = false → y.s.size ≤ 20000 := by
          intro y hy ht
          have := words_size _ (((bl s).take (p + q)).drop p) p (Nat.le_refl _) y (by rw [HWS.out]; exact hy) ht
          rw [List.length_drop, List.length_take, bl_length] at this
          omega
        have hL4 := HL.out.grow hI4.gr
        obtain ⟨r0, r1, rf⟩ : w3.cell? ⟨wc.heap.size, 0, none⟩ = some (.slice none 0 0) ∧ w3.cell? ⟨wc.heap.size, 1, none⟩ = some (.int .i64 0) ∧ ∀ i, w3.frozen? ⟨wc.heap.size, i, none⟩ = false := ⟨by simp [World.cell?, hR3], by simp [World.cell?, hR3], fun i => by simp [World.frozen?, hR3]⟩
        have hR4 : ((w3.setCell ⟨wc.heap.size, 0, none⟩ (.slice A m cap)).setCell ⟨wc.heap.size, 1, none⟩ (.int .i64 en)).heap[wc.heap.size]? = some (.cells #[.slice A m cap, .int .i64 en] 64 (0, 0)) := (set_block (set_block hR3 _) _).trans rfl
        have H4 := Lib.hid (And.intro hrd (And.intro hI4 (And.intro hbs hL4)))
        have Hm := Lib.hid hm
        have hR20 : 20 ≤ wc.heap.size := Nat.le_trans HL.out.size HI.out.gr.size
        have Hlt := Lib.hid (And.intro HI.out.lt hR20)
        clear hR3 hown hg3 hRg hRn Hws hrd hI3 hk3 hI4 hbs hL4 hlt3 hR20 hm
        have hne : (bl s).drop p ≠ [] := bl_drop_ne hlt
        have Hne := Lib.hid hne
        clear hne
        obtain ⟨W4, hW4⟩ : ∃ W, (w3.setCell ⟨wc.heap.size, 0, none⟩ (.slice A m cap)).setCell ⟨wc.heap.size, 1, none⟩ (.int .i64 en) = W := ⟨_, rfl⟩
        rw [hW4] at H4 hR4
        have v0 : W4.cell? ⟨wc.heap.size, 0, none⟩ = some (.slice A m cap) := by simp [World.cell?, hR4]
        have HR4 := Lib.hid hR4
        clear hR4
        rcases ws with _ | ⟨x, ws'⟩
        · obtain rfl : m = 0 := by have := Hm.out; simpa using this.symm
          go_wp2
          go_roundg g
          case measure => omega
          case rel =>
            have hst := parseGo_skip (N := s.size) (g := g) (c := c) Hne.out Hq.out HWS.out
            exact ⟨c, p + q + 1, H4.out.2.1, rfl, by go_num, by omega, by omega, Lib.hid (by rw [← hst]; exact HK.out)⟩
        · obtain ⟨n, rfl⟩ : ∃ n, m = n + 1 := ⟨ws'.length, by have := Hm.out; simpa using this.symm⟩
          have hl0 : ((n : Int) + 1 == 0) = false := beq_eq_false_iff_ne.2 (by omega)
          obtain ⟨⟨hw0, hw1⟩, h20⟩ := Hlt.out
          have hpR : w1.heap.size ≠ wc.heap.size := by omega
          have hsw : w.heap.size < w1.heap.size := by have := (Array.getElem?_eq_some_iff.1 hz1).1; omega
          have h3W : w3.heap.size ≤ W4.heap.size := by rw [← hW4]; simp [World.setCell]
          cases c with
          | none =>
            have Hlist := Lib.hid (list_any wc.heap.size w3.heap.size en (x :: ws') W4 H4.out.1 h3W H4.out.2.2.1 H4.out.2.2.2 h20)
            have hpg := parseGo_words (N := s.size) (g := g) (c := none) Hne.out Hq.out HWS.out
            simp only at hpg
            rw [HK.out] at hpg
            have HPG := Lib.hid hpg
            clear hpg h3W
            go_wp2_with fail
            refine Hlist.out.mono ?_
            rintro e w5 ⟨hend, hk5⟩
            have HI5 := Lib.hid (H4.out.2.1.kp hk5 HR4.out hw0 hpR)
            obtain ⟨vl, hP5, hown5⟩ := HI5.out.cl
            obtain ⟨p0, p1, p2, pf⟩ := cells3 hP5
            have HP5 := Lib.hid hP5
            obtain ⟨HLN, hHLN⟩ : ∃ y, headLine en (x :: ws') = y := ⟨_, rfl⟩
            rw [hHLN] at hend HPG
            clear hHLN
            cases HLN with
            | error er =>
              obtain ⟨ea, eno⟩ := er
              obtain ⟨ti, ra, v, rfl, hv⟩ := hend
              have hv2 := hv.kp (set3_kp w5 w1.heap.size (.string ti) (.int .i64 ra) (.slice none 0 0)) (by have := H4.out.2.1.lt.2; omega)
              have hres2 := (set3_kp w5 w1.heap.size (.string ti) (.int .i64 ra) (.slice none 0 0)).heap (by omega) HI5.out.res
              have hg2 := HI5.out.gr.own (set3_kp w5 w1.heap.size (.string ti) (.int .i64 ra) (.slice none 0 0)) (Nat.le_of_lt hsw)
              have HE := Lib.hid (set3_end ((Kp.refl w.heap.size w).gr hg2) hv2 (by have := H4.out.2.1.lt.1; omega))
              have HG := Lib.hid hg2
              obtain ⟨b, rfl, -, -⟩ := hv
              obtain ⟨W6, hW6⟩ : ∃ W, set3 w5 w1.heap.size (.string ti) (.int .i64 ra) (.slice none 0 0) = W := ⟨_, rfl⟩
              rw [hW6] at HE HG hres2
              obtain ⟨c0, c1, c2, cf⟩ := cells3 hres2
              unfold set3 at hW6
              clear hv2 hres2 hg2 hP5 hown5 hk5
              go_wp2
              have hA : ANS = .error (ea, eno) := HPG.out
              rw [hA]
              exact bodyPost_ret (v := .tuple #[.agg #[.string ⟨#[]⟩, .int .i64 0, .slice none 0 0], .iface 82 (.pointer (some ⟨b, 0, none⟩))]) (by simp [results, Tryz.results9, go_sem, c0, c1, c2]) rfl ⟨⟨_, rfl, (HE.out _ _ _).1⟩, ((HG.out.set (p := ⟨w.heap.size, 0, none⟩) (Nat.le_refl _) _).set (p := ⟨w.heap.size, 1, none⟩) (Nat.le_refl _) _).set (p := ⟨w.heap.size, 2, none⟩) (Nat.le_refl _) _⟩
            | ok tr =>
              obtain ⟨ti, ra⟩ := tr
              obtain rfl : e = _ := hend
              have HI6 := Lib.hid (HI5.out.setCl hsw ti ra)
              clear hP5 hown5 hk5
              go_wp2
              go_roundg g
              case measure => omega
              case rel => exact ⟨some ⟨ti, ra, []⟩, p + q + 1, HI6.out, rfl, by go_num, by omega, by omega, Lib.hid HPG.out.symm⟩
          | some cl =>
            have Hev := Lib.hid (event_any w1.heap.size wc.heap.size w3.heap.size (w1.heap.size + 1) en cl x ws' W4 H4.out.1 h3W H4.out.2.1.cl hpR H4.out.2.2.1 H4.out.2.2.2 h20 H4.out.2.1.len (by have := HL.out.size; omega) (by have := HL.out.size; omega) (by have := H4.out.2.1.lt.2; omega) H4.out.2.1.txt)
            have hpg := parseGo_words (N := s.size) (g := g) (c := some cl) Hne.out Hq.out HWS.out
            simp only at hpg
            rw [HK.out] at hpg
            have HPG := Lib.hid hpg
            clear hpg h3W
            go_wp2_with fail
            refine Hev.out.mono ?_
            rintro e w5 ⟨hend, hk5⟩
            obtain ⟨HLN, hHLN⟩ : ∃ y, eventLine en cl (x :: ws') = y := ⟨_, rfl⟩
            have HHLN := Lib.hid hHLN
            rw [hHLN] at hend HPG
            clear hHLN
            cases HLN with
            | error er =>
              obtain ⟨ea, eno⟩ := er
              obtain ⟨v, rfl, hv⟩ := hend
              have hres2 := (hk5.block _ H4.out.2.1.lt.1 (by omega) (by omega) (fun hb => by omega)).trans H4.out.2.1.res
              have hg2 := H4.out.2.1.gr.kv hk5 (by omega) (by omega) (by omega)
              have HE := Lib.hid (set3_end ((Kp.refl w.heap.size w).gr hg2) hv H4.out.2.1.lt.1)
              have HG := Lib.hid hg2
              obtain ⟨b, rfl, -, -⟩ := hv
              obtain ⟨c0, c1, c2, cf⟩ := cells3 hres2
              clear hres2 hg2 hk5
              go_wp2
              have hA : ANS = .error (ea, eno) := HPG.out
              rw [hA]
              exact bodyPost_ret (v := .tuple #[.agg #[.string ⟨#[]⟩, .int .i64 0, .slice none 0 0], .iface 82 (.pointer (some ⟨b, 0, none⟩))]) (by simp [results, Tryz.results9, go_sem, c0, c1, c2]) rfl ⟨⟨_, rfl, (HE.out _ _ _).1⟩, ((HG.out.set (p := ⟨w.heap.size, 0, none⟩) (Nat.le_refl _) _).set (p := ⟨w.heap.size, 1, none⟩) (Nat.le_refl _) _).set (p := ⟨w.heap.size, 2, none⟩) (Nat.le_refl _) _⟩
            | ok ev =>
              obtain ⟨rfl, hC⟩ := hend
              have HI6 := Lib.hid (H4.out.2.1.kv hk5 hC HHLN.out hw0 hsw)
              clear hk5 hC
              go_wp2
              go_roundg g
              case measure => omega
              case rel => exact ⟨some { cl with evs := cl.evs ++ [ev] }, p + q + 1, HI6.out, rfl, by go_num, by omega, by omega, Lib.hid HPG.out.symm⟩
    · have d2 : decide ((p : Int) < (s.size : Int)) = false := decide_eq_false (by omega)
      have d3 : decide (p < s.size) = false := decide_eq_false (by omega)
      have hdrop : (bl s).drop p = [] := List.drop_of_length_le (by rw [bl_length]; omega)
      obtain ⟨hGx, hres, ⟨v, hP, hown⟩, hlen, htxt⟩ := hI
      obtain ⟨c0, c1, c2, cf⟩ := cells3 hres
      obtain ⟨p0, p1, p2, pf⟩ := cells3 hP
      have hsw : w.heap.size < wr.heap.size := (Array.getElem?_eq_some_iff.1 hres).1
      have hG1s := hG1.size
      cases c with
      | none =>
        have hA : ANS = .error ((s.size : Int), 193) := by rw [← HK.out, hdrop, parseGo, if_pos rfl]
        have HAN := Lib.hid hA
        have Hres := Lib.hid hres
        have HGx := Lib.hid hGx
        clear hA hdrop hown hP hlen htxt hres hGx p0 p1 p2 pf c0 c1 c2 cf
        go_wp2_with fail
        refine (fault_any _ _ _).mono ?_
        rintro e w2 ⟨⟨v, rfl, hv⟩, hg2⟩
        have h1 := (hg2.below.block _ (Array.getElem?_eq_some_iff.1 Hres.out).1).trans Hres.out
        obtain ⟨c0, c1, c2, cf⟩ := cells3 h1
        have HE := Lib.hid (set3_end ((Kp.refl w.heap.size w).gr (HGx.out.trans hg2)) hv hsw)
        have HG := Lib.hid (HGx.out.trans hg2)
        clear hv hg2 h1
        go_wp2
        rw [HAN.out]
        exact bodyPost_ret (v := .tuple #[.agg #[.string ⟨#[]⟩, .int .i64 0, .slice none 0 0], v]) (by simp [results, Tryz.results9, go_sem, c0, c1, c2]) rfl ⟨⟨_, rfl, (HE.out _ _ _).1⟩, ((HG.out.set (p := ⟨w.heap.size, 0, none⟩) (Nat.le_refl _) _).set (p := ⟨w.heap.size, 1, none⟩) (Nat.le_refl _) _).set (p := ⟨w.heap.size, 2, none⟩) (Nat.le_refl _) _⟩
      | some cl =>
        obtain ⟨A, cc, rfl⟩ : ∃ A cc, v = .slice A cl.evs.length cc := by
          rcases Joins.ownsRow_forms hown with ⟨rfl, h0⟩ | ⟨g, cap, rfl⟩
          · exact ⟨none, 0, by rw [show cl.evs.length = 0 from h0]⟩
          · exact ⟨_, _, rfl⟩
        have hA : ANS = .ok cl := by rw [← HK.out, hdrop, parseGo, if_pos rfl]
        have HAN := Lib.hid hA
        have HGx := Lib.hid hGx
        have ho : ∀ u0 u1 u2, (((wr.setCell ⟨w.heap.size, 0, none⟩ u0).setCell ⟨w.heap.size, 1, none⟩ u1).setCell ⟨w.heap.size, 2, none⟩ u2).ownsRow w.heap.size 51 5 (.slice A cl.evs.length cc) cl.evs.length (evsCells cl.evs) := fun u0 u1 u2 =>
          Joins.ownsRow_le (ownsRow_setCell_below (ownsRow_setCell_below (ownsRow_setCell_below hown (a := ⟨w.heap.size, 0, none⟩) (by show w.heap.size < w1.heap.size + 1; omega) u0) (a := ⟨w.heap.size, 1, none⟩) (by show w.heap.size < w1.heap.size + 1; omega) u1) (a := ⟨w.heap.size, 2, none⟩) (by show w.heap.size < w1.heap.size + 1; omega) u2) (by omega)
        have Ho := Lib.hid ho
        simp only [clOf] at p0 p1 p2
        clear hA hdrop hown hP hlen htxt hres hGx ho pf
        go_wp2
        rw [HAN.out]
        exact bodyPost_ret (v := .tuple #[.agg #[.string cl.title, .int .i64 cl.rate, .slice A cl.evs.length cc], .nilIface]) (by simp [results, Tryz.results9, go_sem, c0, c1, c2]) rfl ⟨⟨_, rfl, Ho.out _ _ _⟩, ((HGx.out.set (p := ⟨w.heap.size, 0, none⟩) (Nat.le_refl _) _).set (p := ⟨w.heap.size, 1, none⟩) (Nat.le_refl _) _).set (p := ⟨w.heap.size, 2, none⟩) (Nat.le_refl _) _⟩

/-- cuts.Parse at every text. -/
theorem parse_any (s : ByteArray) (w : World) (hL : Laid w) : Calls Tryz.prog 9 #[.string s] w fun e w' => ParseEnd w.heap.size w' e (parse s) ∧ Gr w w' := by
  by_cases h : 20000 < s.size
  · exact parse_long s w h
  · cases hu : unruly (bl s) with
    | some k => exact parse_bad s w h k hu hL
    | none => exact parse_good s w h hu hL
end Go.Proofs.Cuts
