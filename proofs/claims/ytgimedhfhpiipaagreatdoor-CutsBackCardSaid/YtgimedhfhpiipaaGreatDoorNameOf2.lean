/-
  timecode.Name of a frame of its day: its name. Conditions: the rate is one, the frame is of its day; the listed variables lie in the world.
-/
import Derived.Test.YtgimedhfhpiipaaGreatDoorNameOf
import Derived.Deep.DeepCutAuto
import Derived.Deep.RegionLaw
import Derived.Deep.AppendLies
import Derived.Lib.OwnKind
namespace Go.Proofs.Cuts
open Go.RowKit

/-- A row of bytes of the call's own, the rate in block R. -/
structure NInv (w0 : World) (R : Nat) (rv : Array Value) (w : World) (v : Value) (l : List UInt8) : Prop where
  gr : Gr w0 w
  rate : w.heap[R]? = some (.cells rv 145 (0, 0))
  own : w.ownsRow w0.heap.size 5 1 v l.length (Lib.byteCells l)
theorem NInv.gr' {w0 w w' : World} {R : Nat} {rv : Array Value} {v : Value} {l : List UInt8} (h : NInv w0 R rv w v l) (g : Gr w w') : NInv w0 R rv w' v l :=
  ⟨h.gr.trans g, (g.below.block _ (Array.getElem?_eq_some_iff.1 h.rate).1).trans h.rate, own_gr h.own g⟩
theorem own_not {w : World} {B R n : Nat} {v : Value} {xs : List Value} {rv : Array Value} (h : w.ownsRow B 5 1 v n xs) (hR : w.heap[R]? = some (.cells rv 145 (0, 0))) : some R ≠ v.ownBlock := by
  intro he
  obtain ⟨c, fz, hc⟩ := Lib.ownsRow_kind h R he.symm
  rw [hR] at hc
  simp only [Option.some.injEq, Obj.cells.injEq] at hc
  exact absurd hc.2.1 (by decide)
theorem NInv.grown {w0 w w' : World} {R : Nat} {rv : Array Value} {v v' : Value} {l l' : List UInt8} (h : NInv w0 R rv w v l) {o : Obj} (hg : (w.alloc o).grownBy w' v.ownBlock) (hown : w'.ownsRow w0.heap.size 5 1 v' l'.length (Lib.byteCells l')) : NInv w0 R rv w' v' l' :=
  ⟨(h.gr.alloc o).grown hg (fun k hk => (own_ge h.own k hk).1), (hg.block R (by have := (Array.getElem?_eq_some_iff.1 h.rate).1; simp; omega) (own_not h.own h.rate)).trans (heap_old h.rate o), hown⟩
theorem NInv.end_ {w0 w w' : World} {R : Nat} {rv : Array Value} {v : Value} {l l' : List UInt8} {e : Ending} (h : NInv w0 R rv w v l) (g : RowEnd w0.heap.size v w l' e w') : ∃ v', e = .returned v' ∧ NInv w0 R rv w' v' l' := by
  obtain ⟨v', he, hown, o, hg⟩ := g
  exact ⟨v', he, h.grown hg hown⟩
/-- Behind an append of one byte. -/
theorem NInv.one {w0 w w' : World} {R : Nat} {rv : Array Value} {v v' : Value} {l : List UInt8} {c : UInt8} {o : Obj} (h : NInv w0 R rv w v l) (hg : (w.alloc o).grownBy w' v.ownBlock) (hown : w'.ownsRow w0.heap.size 5 1 v' (l.length + 1) (Lib.byteCells l ++ [.int .u8 (c.toNat : Int)])) : NInv w0 R rv w' v' (l ++ [c]) :=
  h.grown hg (by rw [List.length_append, byteCells_append]; exact hown)

theorem NInv.cells {w0 w : World} {R : Nat} {c num den d : Value} {v : Value} {l : List UInt8} (h : NInv w0 R #[c, num, den, d] w v l) : Gr w0 w ∧ w.cell? ⟨R, 0, none⟩ = some c ∧ w.cell? ⟨R, 1, none⟩ = some num ∧ w.cell? ⟨R, 2, none⟩ = some den ∧ w.cell? ⟨R, 3, none⟩ = some d := by
  obtain ⟨x0, x1, x2, x3, _⟩ := cells4 h.rate
  exact ⟨h.gr, x0, x1, x2, x3⟩
set_option maxRecDepth 100000 in
set_option maxHeartbeats 4000000 in
theorem name_any (r n : Int) (w : World) (hr : isRate r = true) (h0 : 0 ≤ n) (h1 : n < day r) (hL : Laid w) :
    Calls Tryz.prog 90 #[.int .i64 r, .int .i64 n] w fun e w' => e = .returned (.tuple #[.string (ba (nameOf r n)), .int .i64 0]) ∧ Gr w w' := by
  obtain ⟨i0, hi, hz0, hz1, hz2⟩ := info_parts info5
  have hc : 24 ≤ rcount r ∧ rcount r ≤ 60 := by rcases isRate_cases hr with rfl | rfl | rfl | rfl | rfl | rfl | rfl <;> decide
  have hp := name_parts hr h0 h1
  have hdr := dropped_range hr h0 h1
  have Hof := Lib.hid (of_yes r n w hr h0 h1 hL)
  have Hdr := Lib.hid (fun num den w => dropped_any r n num den w hr h0 h1)
  have Hmk := Lib.hid (fun num den w => mark_any r num den w)
  have hname : nameOf r n = two ((n + dropped r n) / rcount r / 3600) ++ [58] ++ two ((n + dropped r n) / rcount r / 60 % 60) ++ [58] ++ two ((n + dropped r n) / rcount r % 60) ++ [UInt8.ofNat (markOf r)] ++ two ((n + dropped r n) % rcount r) := rfl
  obtain ⟨S, hS⟩ : ∃ S, (n + dropped r n) / rcount r = S := ⟨_, rfl⟩
  obtain ⟨F, hF⟩ : ∃ F, (n + dropped r n) % rcount r = F := ⟨_, rfl⟩
  rw [hS, hF] at hname hp
  have hS' : (n + dropped r n).tdiv (rcount r) = S := by rw [Int.tdiv_eq_ediv_of_nonneg hdr.1, hS]
  have hF' : (n + dropped r n).tmod (rcount r) = F := by rw [Int.tmod_eq_emod_of_nonneg hdr.1, hF]
  obtain ⟨dn, hdn⟩ : ∃ dn, dropped r n = dn := ⟨_, rfl⟩
  obtain ⟨c, hcc⟩ : ∃ c, rcount r = c := ⟨_, rfl⟩
  obtain ⟨d, hdd⟩ : ∃ d, rdrop r = d := ⟨_, rfl⟩
  obtain ⟨m, hm⟩ : ∃ m, n + dn = m := ⟨_, rfl⟩
  rw [hdn, hm, hcc] at hS' hF' hdr hS hF
  rw [hcc] at hc
  have hn6 : n < 86400 * 60 := by rcases isRate_cases hr with rfl | rfl | rfl | rfl | rfl | rfl | rfl <;> simp only [day, rcount, rdrop] at h1 <;> omega
  rw [hcc, hdd] at Hof
  simp only [hcc, hdd, hdn] at Hdr Hmk
  have Hname := Lib.hid hname
  have hwm : IntKind.i64.wrap (n + dn) = m := by rw [hm]; exact IntWalk.i64_in _ (by omega)
  have hc0 : (c == 0) = false := beq_eq_false_iff_ne.2 (by omega)
  have hc1 : ¬ c = 0 := by omega
  have hwS : IntKind.i64.wrap S = S := IntWalk.i64_in _ (by omega)
  have hwF : IntKind.i64.wrap F = F := IntWalk.i64_in _ (by omega)
  clear hname hcc hdd hdn hr hL h1
  go_enter Tryz.func90, Tryz.ntmps90
  go_wp2_with fail
  refine Hof.out.mono ?_
  rintro e w1 ⟨⟨num, den, rfl⟩, hg1⟩
  have hX1 := heap_new w1 (.cells #[.int .i64 c, .int .i64 num, .int .i64 den, .int .i64 d] 145)
  have HG1 := Lib.hid (hg1.alloc (.cells #[.int .i64 c, .int .i64 num, .int .i64 den, .int .i64 d] 145))
  have HX1 := Lib.hid hX1
  clear hg1 hX1
  go_wp2_with fail
  refine (Hdr.out num den _).mono ?_
  rintro e w2 ⟨rfl, hg2⟩
  have hX2 := (hg2.below.block _ (Array.getElem?_eq_some_iff.1 HX1.out).1).trans HX1.out
  obtain ⟨x0, x1, x2, x3, xf⟩ := cells4 hX2
  have HG2 := Lib.hid (HG1.out.trans hg2)
  have HX2 := Lib.hid hX2
  clear hg2 hX2
  go_wp2
  go_quiet (fail)
  obtain ⟨a1, ha1⟩ : ∃ a, S / 3600 = a := ⟨_, rfl⟩
  obtain ⟨a2, ha2⟩ : ∃ a, S / 60 % 60 = a := ⟨_, rfl⟩
  obtain ⟨a3, ha3⟩ : ∃ a, S % 60 = a := ⟨_, rfl⟩
  have hab : (0 ≤ a1 ∧ a1 < 24) ∧ (0 ≤ a2 ∧ a2 < 60) ∧ (0 ≤ a3 ∧ a3 < 60) := by omega
  have Hn2 := Lib.hid (show nameOf r n = two a1 ++ [58] ++ two a2 ++ [58] ++ two a3 ++ [UInt8.ofNat (markOf r)] ++ two F by rw [Hname.out, ha1, ha2, ha3])
  have HN2 : Hid (NInv w w1.heap.size #[.int .i64 c, .int .i64 num, .int .i64 den, .int .i64 d] (w2.drewN nq) (.slice none 0 0) []) := Lib.hid ⟨HG2.out.drewN _, HX2.out, ⟨rfl, .inl ⟨rfl, rfl⟩⟩⟩
  clear hS hF hS' hF' hwm hwS hwF hc0 hc1 x0 x1 x2 x3 xf Hname
  go_wp2_with fail
  refine (two_any w.heap.size (.slice none 0 0) [] a1 _ (by omega) (by omega) HN2.out.own (by simp) HN2.out.gr.size).mono ?_
  rintro e w3 hend
  obtain ⟨v3, rfl, hN3⟩ := HN2.out.end_ hend
  have HN3 := Lib.hid hN3
  clear hend hN3 HN2
  go_wp2_with (at_builtin; refine wpList_append_own _ rfl (.tmp 35) (.tmp 36) 160 rfl w.heap.size 5 i0 (.int .u8 0) 1 1 Tryz.underlying160 hi hz0 hz1 hz2 rfl (by decide) _ _ _ rfl (HN3.out.own.alloc _) ⟨w3.heap.size, 0, none⟩ 1 1 [.int .u8 58] rfl rfl ?c1 ?c2 ?c3 ?c4 ?c5 ?_)
  case c1 => exact fun j u hj => cells_new rfl _ _ j u hj
  case c2 => intro u hu; simp only [List.mem_cons, List.not_mem_nil, or_false] at hu; rcases hu with rfl; rfl
  case c3 => unfold maxLen; simp [two]
  case c4 => simp [two]
  case c5 => have := HN3.out.gr.size; simp; omega
  intro v4 w4 hown4 hg4 _
  have HN4 := Lib.hid (HN3.out.one (c := 58) hg4 hown4)
  clear hown4 hg4 HN3
  go_wp2_with fail
  refine (two_any w.heap.size v4 _ a2 _ (by omega) (by omega) HN4.out.own (by simp [two]) HN4.out.gr.size).mono ?_
  rintro e w5 hend
  obtain ⟨v5, rfl, hN5⟩ := HN4.out.end_ hend
  have HN5 := Lib.hid hN5
  clear hend hN5 HN4
  go_wp2_with (at_builtin; refine wpList_append_own _ rfl (.tmp 42) (.tmp 43) 160 rfl w.heap.size 5 i0 (.int .u8 0) 1 1 Tryz.underlying160 hi hz0 hz1 hz2 rfl (by decide) _ _ _ rfl (HN5.out.own.alloc _) ⟨w5.heap.size, 0, none⟩ 1 1 [.int .u8 58] rfl rfl ?d1 ?d2 ?d3 ?d4 ?d5 ?_)
  case d1 => exact fun j u hj => cells_new rfl _ _ j u hj
  case d2 => intro u hu; simp only [List.mem_cons, List.not_mem_nil, or_false] at hu; rcases hu with rfl; rfl
  case d3 => unfold maxLen; simp [two]
  case d4 => simp [two]
  case d5 => have := HN5.out.gr.size; simp; omega
  intro v6 w6 hown6 hg6 _
  have hN6 := HN5.out.one (c := 58) hg6 hown6
  obtain ⟨L6, hL6⟩ : ∃ L, ([] ++ two a1 ++ [58]) ++ two a2 ++ [58] = L := ⟨_, rfl⟩
  have hl6 : L6.length = 6 := by rw [← hL6]; rfl
  rw [hL6] at hN6
  have Hn6 := Lib.hid (show nameOf r n = (L6 ++ two a3 ++ [UInt8.ofNat (markOf r)]) ++ two F by rw [Hn2.out, ← hL6]; rfl)
  have HN6 := Lib.hid hN6
  obtain ⟨x0, x1, x2, x3, xf⟩ := cells4 hN6.rate
  clear hown6 hg6 HN5 hN6 hL6 Hn2
  go_upto_region 8 with fail
  go_cut [10] (fun v10 wx => NInv w w1.heap.size #[.int .i64 c, .int .i64 num, .int .i64 den, .int .i64 d] wx v10 (L6 ++ two a3 ++ [UInt8.ofNat (markOf r)]))
  case first =>
    have hN6 := HN6.out.gr' (Gr.refl _).drew
    have h60 : S.tmod 60 = a3 := by rw [Int.tmod_eq_emod_of_nonneg (by omega)]; exact ha3
    have HN6d := Lib.hid hN6
    have hS6 := hN6.cells
    clear hN6
    go_region_held3 (fun w' => Gr w w' ∧ w'.cell? ⟨w1.heap.size, 0, none⟩ = some (.int .i64 c) ∧ w'.cell? ⟨w1.heap.size, 1, none⟩ = some (.int .i64 num) ∧ w'.cell? ⟨w1.heap.size, 2, none⟩ = some (.int .i64 den) ∧ w'.cell? ⟨w1.heap.size, 3, none⟩ = some (.int .i64 d)) (first | assumption | exact HN7.out.cells | exact (HN7.out.gr' hg8).cells | exact ((HN7.out.gr' hg8).gr' ((Gr.refl _).alloc _)).cells | exact HN9.out.cells)
      (first
        | (go_at_call 112; refine (two_any w.heap.size v6 L6 a3 _ (by omega) (by omega) HN6d.out.own (by omega) HN6d.out.gr.size).mono ?_; rintro e w7 hend; obtain ⟨v7, rfl, hN7⟩ := HN6d.out.end_ hend; have HN7 := Lib.hid hN7; clear hend hN7)
        | (go_at_call 113; refine (Hmk.out num den _).mono ?_; rintro e w8 ⟨rfl, hg8⟩)
        | (refine step_append_lies _ rfl (.tmp 48) (.tmp 51) 160 rfl w.heap.size 5 i0 (.int .u8 0) 1 1 Tryz.underlying160 hi hz0 hz1 hz2 rfl (by decide) _ (L6 ++ two a3).length (Lib.byteCells (L6 ++ two a3)) rfl ((HN7.out.gr' hg8).own.alloc _) ⟨w8.heap.size, 0, none⟩ 1 1 [.int .u8 (markOf r : Int)] rfl rfl (fun j u hj => cells_new rfl _ _ j u hj) (by intro u hu; simp only [List.mem_cons, List.not_mem_nil, or_false] at hu; rcases hu with rfl; rfl) (by decide) (by unfold maxLen; simp [hl6, two]) (by simp [hl6, two]) (by have := (HN7.out.gr' hg8).gr.size; simp; omega) _ rfl ?_; intro g cap w9 hown9 hgr _ hlt9; have HN9 := Lib.hid ((HN7.out.gr' hg8).one (c := UInt8.ofNat (markOf r)) hgr (by rw [mark_ok]; exact hown9)); clear hown9 hgr))
    go_wp2
    go_meet
    case rel =>
      rw [show 6 + (two a3).length = (L6 ++ two a3).length by rw [List.length_append, hl6]]
      exact HN9.out
  case rest =>
    have HC := Lib.hid hcut
    clear hcut
    have hlc : (L6 ++ two a3 ++ [UInt8.ofNat (markOf r)]).length = 9 := by rw [List.length_append, List.length_append, hl6]; rfl
    go_wp2_with fail
    refine (two_any w.heap.size _ _ F _ (by omega) (by omega) HC.out.own (by omega) HC.out.gr.size).mono ?_
    rintro e w9 hend
    obtain ⟨v9, rfl, hN9⟩ := HC.out.end_ hend
    have hconv := own_string hN9.own
    have HN9 := Lib.hid hN9
    clear hend hN9 HC
    go_wp2
    go_ret2
    exact ⟨by rw [Hn6.out]; simp only [List.append_assoc, List.cons_append, List.nil_append]; rfl, HN9.out.gr⟩
end Go.Proofs.Cuts
