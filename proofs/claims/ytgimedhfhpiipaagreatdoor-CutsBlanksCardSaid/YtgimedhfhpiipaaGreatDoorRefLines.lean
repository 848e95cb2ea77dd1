/-
  dailiesref19.Lines: the words of a list that may be. Conditions: the list may be; its events can be read.
-/
import Derived.Test.YtgimedhfhpiipaaGreatDoorRefWords
import Derived.Test.YtgimedhfhpiipaaGreatDoorCheck3
import Derived.Test.YtgimedhfhpiipaaGreatDoorReaderL
import Derived.Test.YtgimedhfhpiipaaGreatDoorEvent
import Derived.Deep.DeepCutAuto
import Derived.Deep.RegionLaw
import Derived.Deep.AppendLies
import Derived.Lib.OwnKind
namespace Go.Proofs.Cuts
open Go.RowKit

theorem info9 : (Tryz.prog.info? 9).map (fun i => (i.zero, i.size, i.bytes)) = some (some (.string ⟨#[]⟩), 1, 16) := by kernel_rfl
theorem info91 : (Tryz.prog.info? 91).map (fun i => (i.zero, i.size, i.bytes)) = some (some (.slice none 0 0), 1, 24) := by kernel_rfl
def strs (l : List It) : List Value := l.map fun i => .string (ba i.text)
theorem strs_append (a b : List It) : strs (a ++ b) = strs a ++ strs b := by simp [strs]
theorem strs_length (a : List It) : (strs a).length = a.length := by simp [strs]
theorem own_kind {w : World} {B R n e e' size : Nat} {v : Value} {xs : List Value} {rv : Array Value} {fz : Nat × Nat} (h : w.ownsRow B e size v n xs) (hR : w.heap[R]? = some (.cells rv e' fz)) (hne : e' ≠ e) : some R ≠ v.ownBlock := by
  intro he
  obtain ⟨c, fz, hc⟩ := Lib.ownsRow_kind h R he.symm
  rw [hR] at hc
  simp only [Option.some.injEq, Obj.cells.injEq] at hc
  exact hne hc.2.1
theorem own_base {w : World} {B B' n e size : Nat} {v : Value} {xs : List Value} (h : w.ownsRow B' e size v n xs) (hB : B ≤ B') : w.ownsRow B e size v n xs := by
  refine ⟨h.1, ?_⟩
  rcases h.2 with hn | ⟨b, cap, cur, hv, hb, rest⟩
  · exact .inl hn
  · exact .inr ⟨b, cap, cur, hv, Nat.le_trans hB hb, rest⟩
theorem own_other {w w' : World} {B B' n m e e' size size' : Nat} {u v : Value} {xs ys : List Value} {o : Obj} (h : w.ownsRow B e size u n xs) (hv : w.ownsRow B' e' size' v m ys) (hne : e ≠ e') (hg : (w.alloc o).grownBy w' v.ownBlock) : w'.ownsRow B e size u n xs := by
  refine ⟨h.1, ?_⟩
  rcases h.2 with hn | ⟨b, cap, cur, hv', hb, hgg, rest⟩
  · exact .inl hn
  · exact .inr ⟨b, cap, cur, hv', hb, (hg.block b (by have := (Array.getElem?_eq_some_iff.1 hgg).1; simp; omega) (own_kind hv hgg hne)).trans (heap_old hgg o), rest⟩
/-- A row that a composite literal has built. -/
theorem own_built {w : World} {B g e : Nat} {cur : Array Value} (h : w.heap[g]? = some (.cells cur e (0, 0))) (hB : B ≤ g) (hs : cur.size ≤ maxLen) : w.ownsRow B e 1 (.slice (some ⟨g, 0, none⟩) cur.size cur.size) cur.size cur.toList :=
  ⟨by simp, .inr ⟨g, cur.size, cur, rfl, hB, h, Nat.le_refl _, hs, by simp, by rw [Nat.mul_one, ← Array.length_toList, List.take_length]⟩⟩

theorem own_one {w : World} {B n e size : Nat} {v : Value} {xs : List Value} (h : w.ownsRow B e size v n xs) : v.oneCell' = true := by
  rcases h.2 with ⟨rfl, _⟩ | ⟨g, cap, cur, rfl, _⟩ <;> rfl
theorem own_form {w : World} {B n e size : Nat} {v : Value} {xs : List Value} (h : w.ownsRow B e size v n xs) (hn : 0 < n) : ∃ g cap, v = .slice (some ⟨g, 0, none⟩) n cap := by
  rcases h.2 with ⟨_, h0⟩ | ⟨g, cap, cur, rfl, _⟩
  · omega
  · exact ⟨g, cap, rfl⟩
/-- Rows of words. -/
structure LInv (w0 w : World) (v : Value) (rows : List (List It)) (us : List Value) : Prop where
  gr : Gr w0 w
  own : w.ownsRow w0.heap.size 91 1 v rows.length us
  rows : ∀ (k : Nat) (u : Value) (l : List It), us[k]? = some u → rows[k]? = some l → w.ownsRow w0.heap.size 9 1 u l.length (strs l)
theorem LInv.gr' {w0 w w' : World} {v : Value} {rows : List (List It)} {us : List Value} (h : LInv w0 w v rows us) (g : Gr w w') : LInv w0 w' v rows us :=
  ⟨h.gr.trans g, own_gr h.own g, fun k u l hu hl => own_gr (h.rows k u l hu hl) g⟩
theorem LInv.add {w0 w w' : World} {v v' u : Value} {rows : List (List It)} {us : List Value} {l : List It} {o : Obj} (h : LInv w0 w v rows us) (hu : w.ownsRow w0.heap.size 9 1 u l.length (strs l)) (hg : (w.alloc o).grownBy w' v.ownBlock) (hown : w'.ownsRow w0.heap.size 91 1 v' (rows.length + 1) (us ++ [u])) : LInv w0 w' v' (rows ++ [l]) (us ++ [u]) := by
  refine ⟨(h.gr.alloc o).grown hg (fun k hk => (own_ge h.own k hk).1), by rw [List.length_append]; exact hown, ?_⟩
  have hl : us.length = rows.length := by have := h.own.1; omega
  intro k x y hx hy
  rcases Nat.lt_or_ge k us.length with hk | hk
  · rw [List.getElem?_append_left hk] at hx
    rw [List.getElem?_append_left (by omega)] at hy
    exact own_other (h.rows k x y hx hy) h.own (by decide) hg
  · rw [List.getElem?_append_right hk] at hx
    rw [List.getElem?_append_right (by omega)] at hy
    have hk0 : k - us.length = 0 := by
      have := (List.getElem?_eq_some_iff.1 hx).1
      simp at this; omega
    rw [hk0] at hx
    rw [show k - rows.length = 0 by omega] at hy
    simp only [List.getElem?_cons_zero, Option.some.injEq] at hx hy
    subst hx hy
    exact own_other hu h.own (by decide) hg

theorem LInv.first {w w1 : World} {X a b c : Value} {B C : Obj} {v : Value} {l : List It} (hw : ((((w.alloc B).alloc (.cells #[a, b, c] 9)).alloc C).drew) = w1) (hC : C = .cells #[.slice (some ⟨w.heap.size + 1, 0, none⟩) 3 3] 91) (hv : v = .slice (some ⟨w.heap.size + 1 + 1, 0, none⟩) 1 1) (hl : strs l = [a, b, c]) (hX : X = .slice (some ⟨w.heap.size + 1, 0, none⟩) 3 3) : LInv w w1 v [l] [X] := by
  subst hw hC hv hX
  have hB : (w.alloc B).heap.size = w.heap.size + 1 := by simp
  have h1 : (((w.alloc B).alloc (.cells #[a, b, c] 9)).alloc (.cells #[.slice (some ⟨w.heap.size + 1, 0, none⟩) 3 3] 91)).heap[w.heap.size + 1]? = some (.cells #[a, b, c] 9 (0, 0)) :=
    heap_old (by rw [← hB]; exact heap_new _ _) _
  have h2 : (((w.alloc B).alloc (.cells #[a, b, c] 9)).alloc (.cells #[.slice (some ⟨w.heap.size + 1, 0, none⟩) 3 3] 91)).heap[w.heap.size + 1 + 1]? = some (.cells #[.slice (some ⟨w.heap.size + 1, 0, none⟩) 3 3] 91 (0, 0)) := by
    have h := heap_new ((w.alloc B).alloc (.cells #[a, b, c] 9)) (.cells #[.slice (some ⟨w.heap.size + 1, 0, none⟩) 3 3] 91)
    have hs : ((w.alloc B).alloc (.cells #[a, b, c] 9)).heap.size = w.heap.size + 1 + 1 := by simp
    rw [hs] at h
    exact h
  have hl3 : l.length = 3 := by rw [← strs_length, hl]; rfl
  refine ⟨((((Gr.refl w).alloc _).alloc _).alloc _).drew, own_gr (own_built h2 (by omega) (by show 1 ≤ maxLen; unfold maxLen; omega)) (Gr.refl _).drew, ?_⟩
  intro k u x hu hx
  cases k with
  | succ k => simp at hu
  | zero =>
    simp only [List.getElem?_cons_zero, Option.some.injEq] at hu hx
    subst hu hx
    rw [hl3, hl]
    exact own_gr (own_built h1 (by omega) (by show 3 ≤ maxLen; unfold maxLen; omega)) (Gr.refl _).drew

set_option maxRecDepth 100000 in
set_option maxHeartbeats 8000000 in
theorem lines_any (l : CL) (A : Option Addr) (c : Nat) (w : World) (hm : May l) (hS : EvsAt w A l.evs) :
    Calls Tryz.prog 17 #[.agg #[.string l.title, .int .i64 l.rate, .slice A l.evs.length c]] w fun r w' => (∃ v us, r = .returned v ∧ LInv w w' v (headIts l :: l.evs.map (evIts l.rate)) us) ∧ Gr w w' := by
  have hmany := hm.many
  have ht := hm.title
  have hr := hm.rate
  have Hev := Lib.hid (evMay_all hm)
  have Hrn := Lib.hid (fun w => refRateName_any l.rate w hr)
  have Hq := Lib.hid (fun w => refQuoted_any l.title w (by omega))
  have Hname := Lib.hid (fun n w a b => refName_any l.rate n w hr a b)
  have Hb := Lib.hid (heap_new w (.cells #[.string l.title, .int .i64 l.rate, .slice A l.evs.length c] 30))
  have Hg := Lib.hid ((Gr.refl w).alloc (.cells #[.string l.title, .int .i64 l.rate, .slice A l.evs.length c] 30))
  have HS := Lib.hid hS
  obtain ⟨i9, h91, h92, h93, h94⟩ := info_parts info9
  obtain ⟨iR, hR1, hR2, hR3, hR4⟩ := info_parts info91
  clear hm hS hr
  obtain ⟨title, rate, evs⟩ := l
  obtain ⟨n, hn⟩ : ∃ n, evs.length = n := ⟨_, rfl⟩
  simp only [hn] at Hev Hrn Hq Hname Hb Hg HS hmany ht ⊢
  have Hn := Lib.hid hn
  clear hn
  obtain ⟨c0, c1, c2, cf⟩ := cells3 Hb.out
  go_enter Tryz.func17, Tryz.ntmps17
  go_upto_region 1 with fail
  go_cut [3] (fun v3 wx => ∃ us, LInv w wx v3 [headIts ⟨title, rate, evs⟩] us ∧ wx.heap[w.heap.size]? = some (.cells #[.string title, .int .i64 rate, .slice A n c] 30 (0, 0)))
  case first =>
    go_region_with (first | (go_at_call 42; refine (Hrn.out _).mono ?_; rintro e w1 ⟨rfl, rfl⟩) | (go_at_call 43; refine (Hq.out _).mono ?_; rintro e w1 ⟨rfl, rfl⟩))
    all_goals
      go_wp2
      go_meet
      case rel =>
        refine ⟨[_], LInv.first rfl rfl rfl (by simp [strs, headIts, It.text]; rfl) rfl, ?_⟩
        exact heap_old (heap_old Hb.out _) _
  case rest =>
    obtain ⟨us, hI, hb⟩ := hcut
    have HI := Lib.hid hI
    clear c0 c1 c2 cf Hb Hg Hrn Hq hI
    obtain ⟨c0, c1, c2, cf⟩ := cells3 hb
    go_wp2
    go_loopg [3, 4] n (fun g x y wx => ∃ (k : Nat) (us : List Value), k + g = n ∧ y = .int .i64 k ∧ LInv w wx x (headIts ⟨title, rate, evs⟩ :: (evs.take k).map (evIts rate)) us ∧ wx.heap[w.heap.size]? = some (.cells #[.string title, .int .i64 rate, .slice A n c] 30 (0, 0)))
    case atStart => exact ⟨0, us, by omega, rfl, HI.out, hb⟩
    case round =>
      clear c0 c1 c2 cf hb HI
      obtain ⟨k, us, hk, rfl, hI, hb⟩ := hrel
      obtain ⟨c0, c1, c2, cf⟩ := cells3 hb
      by_cases hlt : k < n
      · obtain ⟨ev, hev⟩ : ∃ ev, evs[k]? = some ev := by
          rw [List.getElem?_eq_getElem (by rw [Hn.out]; exact hlt)]; exact ⟨_, rfl⟩
        obtain ⟨b, o, rfl, hcells⟩ : ∃ b o, A = some ⟨b, o, none⟩ ∧ ∀ k e, evs[k]? = some e → EvAt w b o k e := by
          rcases HS.out with h0 | h1
          · rw [h0] at hev; cases hev
          · exact h1
        obtain ⟨q0, q1, q2, q3, q4⟩ := (hcells k ev hev).grow hI.gr
        obtain ⟨ah, hmv⟩ := Hev.out ev (List.mem_of_getElem? hev)
        have hf := fadesB_range hmv.fades
        have h0 := hmv.i0
        have h1 := hmv.io
        have h2 := hmv.od
        have hnote := hmv.note
        have htake : evs.take (k + 1) = evs.take k ++ [ev] := by rw [List.take_add_one, hev]; rfl
        have Htake := Lib.hid htake
        have Hn1 := Lib.hid (fun w => Hname.out ev.i w h0 (by omega))
        have Hn2 := Lib.hid (fun w => Hname.out ev.o w (by omega) h2)
        have Hq := Lib.hid (fun w => refQuoted_any ev.note w (by omega))
        have HI := Lib.hid hI
        have Hb := Lib.hid hb
        have hsz := hI.gr.size
        clear hcells hev hmv h0 h1 h2 htake hI hb
        obtain ⟨reel, i, o', fade, note⟩ := ev
        simp only at hf hnote q0 q1 q2 q3 q4 Hn1 Hn2 Hq
        have hdig : ∀ w, 0 < fade → Calls Tryz.prog 44 #[.int .i64 fade] w fun e w' => e = .returned (.string (ba (Lib.itoa fade))) ∧ w' = w := by
          intro w hp
          obtain ⟨d, rfl⟩ : ∃ d : Nat, fade = d := ⟨fade.toNat, by omega⟩
          rw [← dg_itoa]
          exact refDigits_any d w (by omega)
        have Hdig := Lib.hid hdig
        clear hdig
        go_upto_if 34 with fail
        go_cut [6] (fun v6 wx => Gr wr wx ∧ wx.heap[wr.heap.size]? = some (.cells #[.string reel, .int .i64 i, .int .i64 o', .int .i64 fade, .string note] 51 (0, 0)) ∧ wx.ownsRow wr.heap.size 9 1 v6 (fadeIts ⟨reel, i, o', fade, note⟩).length (strs (fadeIts ⟨reel, i, o', fade, note⟩)))
        case first =>
          have hX2 := heap_old (heap_new wr (.cells #[.string reel, .int .i64 i, .int .i64 o', .int .i64 fade, .string note] 51)) (.cells #[.string ⟨#[99, 117, 116]⟩] 9)
          have hR2 := heap_new_at (w := wr.alloc (.cells #[.string reel, .int .i64 i, .int .i64 o', .int .i64 fade, .string note] 51)) (k := wr.heap.size + 1) (by simp) (.cells #[.string ⟨#[99, 117, 116]⟩] 9)
          have hG2 := ((Gr.refl wr).alloc (.cells #[.string reel, .int .i64 i, .int .i64 o', .int .i64 fade, .string note] 51)).alloc (.cells #[.string ⟨#[99, 117, 116]⟩] 9)
          have hs2 : ((wr.alloc (.cells #[.string reel, .int .i64 i, .int .i64 o', .int .i64 fade, .string note] 51)).alloc (.cells #[.string ⟨#[99, 117, 116]⟩] 9)).heap.size = wr.heap.size + 1 + 1 := by simp
          obtain ⟨W2, hW2⟩ : ∃ W2, (wr.alloc (.cells #[.string reel, .int .i64 i, .int .i64 o', .int .i64 fade, .string note] 51)).alloc (.cells #[.string ⟨#[99, 117, 116]⟩] 9) = W2 := ⟨_, rfl⟩
          rw [hW2] at hX2 hR2 hG2 hs2 ⊢
          obtain ⟨e0, e1, e2, e3, e4, ef⟩ := cells5 hX2
          have HX2 := Lib.hid hX2
          have HR2 := Lib.hid hR2
          have HG2 := Lib.hid hG2
          clear hW2 hX2 hR2 hG2 c0 c1 c2 cf q0 q1 q2 q3 q4
          by_cases hfd : 0 < fade
          · have hd1 : decide (0 < fade) = true := decide_eq_true hfd
            go_wp2_with fail
            refine (Hdig.out _ hfd).mono ?_
            rintro e w3 ⟨rfl, rfl⟩
            go_wp2
            go_meet
            case rel =>
              refine ⟨HG2.out.alloc _, heap_old HX2.out _, ?_⟩
              rw [fadeIts, if_pos hfd]
              exact own_built (cur := #[.string ⟨#[102, 97, 100, 101]⟩, .string (ba (Lib.itoa fade))]) (heap_new_at (w := w3) (k := wr.heap.size + 1 + 1) (by omega) _) (by omega) (by show 2 ≤ maxLen; unfold maxLen; omega)
          · have hd1 : decide (0 < fade) = false := decide_eq_false hfd
            go_wp2
            go_meet
            case rel =>
              refine ⟨HG2.out, HX2.out, ?_⟩
              rw [fadeIts, if_neg (show ¬ 0 < fade by omega)]
              exact own_built HR2.out (by omega) (by show 1 ≤ maxLen; unfold maxLen; omega)
        case rest =>
          obtain ⟨hg, hX, hown⟩ := hcut
          have hb0 := (hg.below.block _ (Array.getElem?_eq_some_iff.1 Hb.out).1).trans Hb.out
          have hfl : (fadeIts ⟨reel, i, o', fade, note⟩).length ≤ 2 := by rw [fadeIts]; split <;> simp
          obtain ⟨F, hF⟩ : ∃ F, fadeIts ⟨reel, i, o', fade, note⟩ = F := ⟨_, rfl⟩
          rw [hF] at hown hfl
          have HF := Lib.hid hF
          clear c0 c1 c2 cf q0 q1 q2 q3 q4 hF Hdig
          obtain ⟨c0, c1, c2, cf⟩ := cells3 hb0
          obtain ⟨e0, e1, e2, e3, e4, ef⟩ := cells5 hX
          have HG := Lib.hid hg
          have HX := Lib.hid hX
          have HO := Lib.hid hown
          clear hg hX hown hb0
          go_wp2_with fail
          refine (Hn1.out _).mono ?_
          rintro e w1 ⟨rfl, hg1⟩
          have hb1 := ((HG.out.trans hg1).below.block _ (Array.getElem?_eq_some_iff.1 Hb.out).1).trans Hb.out
          have hX1 := (hg1.below.block _ (Array.getElem?_eq_some_iff.1 HX.out).1).trans HX.out
          clear c0 c1 c2 cf e0 e1 e2 e3 e4 ef
          obtain ⟨c0, c1, c2, cf⟩ := cells3 hb1
          obtain ⟨e0, e1, e2, e3, e4, ef⟩ := cells5 hX1
          have HG1 := Lib.hid (HG.out.trans hg1)
          have HX1 := Lib.hid hX1
          have HO1 := Lib.hid (own_gr HO.out hg1)
          clear hg1 hX1 hb1
          go_wp2_with fail
          refine (Hn2.out _).mono ?_
          rintro e w2 ⟨rfl, hg2⟩
          have hb2 := ((HG1.out.trans hg2).below.block _ (Array.getElem?_eq_some_iff.1 Hb.out).1).trans Hb.out
          have hX2 := (hg2.below.block _ (Array.getElem?_eq_some_iff.1 HX1.out).1).trans HX1.out
          clear c0 c1 c2 cf e0 e1 e2 e3 e4 ef
          obtain ⟨c0, c1, c2, cf⟩ := cells3 hb2
          obtain ⟨e0, e1, e2, e3, e4, ef⟩ := cells5 hX2
          have hG2 := HG1.out.trans hg2
          have HX2 := Lib.hid hX2
          have HO2 := Lib.hid (own_gr HO1.out hg2)
          have hs2 := hG2.size
          have HG2 := Lib.hid hG2
          clear hg2 hX2 hb2 hG2
          go_wp2_with (at_builtin; refine wpList_append_own _ rfl (.tmp 55) (.tmp 60) 91 rfl wr.heap.size 9 i9 (.string ⟨#[]⟩) 1 16 Tryz.underlying91 h91 h92 h93 h94 rfl (by decide) _ _ _ rfl (HO2.out.alloc _) ⟨w2.heap.size, 0, none⟩ 3 3 [.string reel, .string (ba (nameOf rate i)), .string (ba (nameOf rate o'))] rfl rfl ?d1 ?d2 ?d3 ?d4 ?d5 ?_)
          case d1 => exact fun j u hj => cells_new rfl _ _ j u hj
          case d2 => intro u hu; simp only [List.mem_cons, List.not_mem_nil, or_false] at hu; rcases hu with rfl | rfl | rfl <;> rfl
          case d3 => unfold maxLen; omega
          case d4 => omega
          case d5 => simp; omega
          intro v3 w3 hown3 hg3 _
          have hX3 := (hg3.block wr.heap.size (by have := (Array.getElem?_eq_some_iff.1 HX2.out).1; simp; omega) (own_kind HO2.out HX2.out (by decide))).trans (heap_old HX2.out _)
          have hG3 := (HG2.out.alloc _).grown hg3 (fun k hk => (own_ge HO2.out k hk).1)
          have hb3 := (hG3.below.block _ (Array.getElem?_eq_some_iff.1 Hb.out).1).trans Hb.out
          clear c0 c1 c2 cf e0 e1 e2 e3 e4 ef
          obtain ⟨c0, c1, c2, cf⟩ := cells3 hb3
          obtain ⟨e0, e1, e2, e3, e4, ef⟩ := cells5 hX3
          have hs3 := hG3.size
          have HG3 := Lib.hid hG3
          have HX3 := Lib.hid hX3
          obtain ⟨g3, cap3, rfl⟩ := own_form hown3 (by omega)
          have HO3 := Lib.hid hown3
          clear hg3 hX3 hb3 hG3 hown3
          by_cases hnt : note.size = 0
          · have hev : w3.ownsRow wr.heap.size 9 1 (.slice (some ⟨g3, 0, none⟩) (F.length + 3) cap3) (evIts rate ⟨reel, i, o', fade, note⟩).length (strs (evIts rate ⟨reel, i, o', fade, note⟩)) := by
              have e : evIts rate ⟨reel, i, o', fade, note⟩ = F ++ [.pl (bl reel), .pl (nameOf rate i), .pl (nameOf rate o')] := by
                rw [evIts_parts, HF.out, tailIts, if_pos hnt]; rfl
              have e2 : strs [.pl (bl reel), .pl (nameOf rate i), .pl (nameOf rate o')] = [.string reel, .string (ba (nameOf rate i)), .string (ba (nameOf rate o'))] := by
                simp only [strs, List.map_cons, List.map_nil, It.text, ba_bl]
              rw [e, List.length_append, strs_append, e2]
              exact HO3.out
            have HE := Lib.hid hev
            obtain rfl : note = ⟨#[]⟩ := bl_in (List.eq_nil_of_length_eq_zero (by rw [bl_length]; exact hnt))
            clear hev hnt
            have hIe := HI.out.gr' HG3.out
            have hbe := (HG3.out.below.block _ (Array.getElem?_eq_some_iff.1 Hb.out).1).trans Hb.out
            have HIe := Lib.hid hIe
            have Hbe := Lib.hid hbe
            have hrl : (headIts ⟨title, rate, evs⟩ :: (evs.take k).map (evIts rate)).length ≤ 300 := by
              rw [List.length_cons, List.length_map, List.length_take]; omega
            have hse := hIe.gr.size
            obtain ⟨RW, hRW⟩ : ∃ RW, headIts ⟨title, rate, evs⟩ :: (evs.take k).map (evIts rate) = RW := ⟨_, rfl⟩
            have HRW := Lib.hid hRW
            rw [hRW] at HIe hrl
            clear hIe hbe hRW c0 c1 c2 cf
            go_wp2_with (at_builtin; refine wpList_append_own _ rfl (.tmp 71) (.tmp 73) 45 rfl w.heap.size 91 iR (.slice none 0 0) 1 24 Tryz.underlying45 hR1 hR2 hR3 hR4 rfl (by decide) _ _ _ rfl (HIe.out.own.alloc _) ⟨w3.heap.size, 0, none⟩ 1 1 [.slice (some ⟨g3, 0, none⟩) (F.length + 3) cap3] rfl rfl ?r1 ?r2 ?r3 ?r4 ?r5 ?_)
            case r1 => exact fun j u hj => cells_new rfl _ _ j u hj
            case r2 => intro u hu; simp only [List.mem_cons, List.not_mem_nil, or_false] at hu; subst hu; exact own_one HE.out
            case r3 => unfold maxLen; omega
            case r4 => omega
            case r5 => simp; omega
            intro vz wz hownz hgz _
            have HLz := Lib.hid (HIe.out.add (l := evIts rate ⟨reel, i, o', fade, ⟨#[]⟩⟩) (own_base HE.out (Nat.le_trans hsz (Nat.le_refl _))) hgz hownz)
            have Hbz := Lib.hid ((hgz.block w.heap.size (by have := (Array.getElem?_eq_some_iff.1 Hbe.out).1; simp; omega) (own_kind HIe.out.own Hbe.out (by decide))).trans (heap_old Hbe.out _))
            clear hownz hgz
            go_wp2
            go_roundg (gk - 1)
            case measure => omega
            case rel =>
              refine ⟨k + 1, us ++ [.slice (some ⟨g3, 0, none⟩) (F.length + 3) cap3], by omega, by go_num, ?_, Hbz.out⟩
              rw [Htake.out, List.map_append, ← List.cons_append, HRW.out]
              exact HLz.out
          · have hne : note.toList ≠ [] := fun e => hnt (by rw [← bl_length, bl, ← ByteArray.toList_eq, e]; rfl)
            have he : note.toList.isEmpty = false := by simpa using hne
            have Hnt := Lib.hid hnt
            clear hnt
            go_wp2_with fail
            refine (Hq.out _).mono ?_
            rintro e w4 ⟨rfl, rfl⟩
            go_wp2_with (at_builtin; refine wpList_append_own _ rfl (.tmp 65) (.tmp 69) 91 rfl wr.heap.size 9 i9 (.string ⟨#[]⟩) 1 16 Tryz.underlying91 h91 h92 h93 h94 rfl (by decide) _ _ _ rfl (HO3.out.alloc _) ⟨w4.heap.size, 0, none⟩ 1 1 [.string (ba (34 :: (esc (bl note) ++ [34])))] rfl rfl ?f1 ?f2 ?f3 ?f4 ?f5 ?_)
            case f1 => exact fun j u hj => cells_new rfl _ _ j u hj
            case f2 => intro u hu; simp only [List.mem_cons, List.not_mem_nil, or_false] at hu; rcases hu with rfl; rfl
            case f3 => unfold maxLen; omega
            case f4 => omega
            case f5 => simp; omega
            intro v5 w5 hown5 hg5 _
            have hG5 := (HG3.out.alloc _).grown hg5 (fun k hk => (own_ge HO3.out k hk).1)
            have hs5 := hG5.size
            have HG5 := Lib.hid hG5
            obtain ⟨g5, cap5, rfl⟩ := own_form hown5 (by omega)
            have hev : w5.ownsRow wr.heap.size 9 1 (.slice (some ⟨g5, 0, none⟩) (F.length + 3 + 1) cap5) (evIts rate ⟨reel, i, o', fade, note⟩).length (strs (evIts rate ⟨reel, i, o', fade, note⟩)) := by
              have e : evIts rate ⟨reel, i, o', fade, note⟩ = (F ++ [.pl (bl reel), .pl (nameOf rate i), .pl (nameOf rate o')]) ++ [.txt (bl note)] := by
                rw [evIts_parts, HF.out, tailIts, if_neg Hnt.out]; simp
              have e2 : strs [.pl (bl reel), .pl (nameOf rate i), .pl (nameOf rate o')] = [.string reel, .string (ba (nameOf rate i)), .string (ba (nameOf rate o'))] := by
                simp only [strs, List.map_cons, List.map_nil, It.text, ba_bl]
              have e3 : strs [.txt (bl note)] = [.string (ba (34 :: (esc (bl note) ++ [34])))] := by
                simp only [strs, List.map_cons, List.map_nil, It.text]
              rw [e, List.length_append, List.length_append, strs_append, strs_append, e2, e3, List.append_assoc]
              exact hown5
            have HE := Lib.hid hev
            clear hev hown5 hg5 hG5
            have hIe := HI.out.gr' HG5.out
            have hbe := (HG5.out.below.block _ (Array.getElem?_eq_some_iff.1 Hb.out).1).trans Hb.out
            have HIe := Lib.hid hIe
            have Hbe := Lib.hid hbe
            have hrl : (headIts ⟨title, rate, evs⟩ :: (evs.take k).map (evIts rate)).length ≤ 300 := by
              rw [List.length_cons, List.length_map, List.length_take]; omega
            have hse := hIe.gr.size
            obtain ⟨RW, hRW⟩ : ∃ RW, headIts ⟨title, rate, evs⟩ :: (evs.take k).map (evIts rate) = RW := ⟨_, rfl⟩
            have HRW := Lib.hid hRW
            rw [hRW] at HIe hrl
            clear hIe hbe hRW c0 c1 c2 cf e0 e1 e2 e3 e4 ef
            go_wp2_with (at_builtin; refine wpList_append_own _ rfl (.tmp 71) (.tmp 73) 45 rfl w.heap.size 91 iR (.slice none 0 0) 1 24 Tryz.underlying45 hR1 hR2 hR3 hR4 rfl (by decide) _ _ _ rfl (HIe.out.own.alloc _) ⟨w5.heap.size, 0, none⟩ 1 1 [.slice (some ⟨g5, 0, none⟩) (F.length + 3 + 1) cap5] rfl rfl ?r1 ?r2 ?r3 ?r4 ?r5 ?_)
            case r1 => exact fun j u hj => cells_new rfl _ _ j u hj
            case r2 => intro u hu; simp only [List.mem_cons, List.not_mem_nil, or_false] at hu; subst hu; exact own_one HE.out
            case r3 => unfold maxLen; omega
            case r4 => omega
            case r5 => simp; omega
            intro vz wz hownz hgz _
            have HLz := Lib.hid (HIe.out.add (l := evIts rate ⟨reel, i, o', fade, note⟩) (own_base HE.out (Nat.le_trans hsz (Nat.le_refl _))) hgz hownz)
            have Hbz := Lib.hid ((hgz.block w.heap.size (by have := (Array.getElem?_eq_some_iff.1 Hbe.out).1; simp; omega) (own_kind HIe.out.own Hbe.out (by decide))).trans (heap_old Hbe.out _))
            clear hownz hgz
            go_wp2
            go_roundg (gk - 1)
            case measure => omega
            case rel =>
              refine ⟨k + 1, us ++ [.slice (some ⟨g5, 0, none⟩) (F.length + 3 + 1) cap5], by omega, by go_num, ?_, Hbz.out⟩
              rw [Htake.out, List.map_append, ← List.cons_append, HRW.out]
              exact HLz.out
      · obtain rfl : k = n := by omega
        have hfull : evs.take k = evs := List.take_of_length_le (by rw [Hn.out]; exact Nat.le_refl _)
        rw [hfull] at hI
        have HI := Lib.hid hI
        clear hI hfull
        go_wp2
        go_ret
        exact ⟨⟨_, _, rfl, HI.out⟩, HI.out.gr⟩
end Go.Proofs.Cuts
