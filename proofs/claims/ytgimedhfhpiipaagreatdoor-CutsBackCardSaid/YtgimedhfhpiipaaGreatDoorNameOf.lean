/-
  timecode.Name: its parts. Conditions: the rate is one, the frame is of its day; the listed variables lie in the world.
-/
import Derived.Test.YtgimedhfhpiipaaGreatDoorTimecode
import Derived.Test.YtgimedhfhpiipaaGreatDoorQuote
import Derived.Test.YtgimedhfhpiipaaGreatDoorForm
import Derived.Test.YtgimedhfhpiipaaGreatDoorWords
import Derived.Test.YtgimedhfhpiipaaGreatDoorReaderL
import Derived.Test.YtgimedhfhpiipaaGreatDoorPBack
import Derived.Deep.RegionHeld3
import Derived.WalkLawsBesides
namespace Go.Proofs.Cuts
open Go.RowKit

theorem perTen_any (c num den d : Int) (w : World) (hc : 0 ≤ c ∧ c ≤ 60) (hd : 0 ≤ d ∧ d ≤ 4) :
    Calls Tryz.prog 106 #[.agg #[.int .i64 c, .int .i64 num, .int .i64 den, .int .i64 d]] w fun e w' => e = .returned (.int .i64 (600 * c - 9 * d)) ∧ Gr w w' := by
  go_enter Tryz.func106, Tryz.ntmps106
  go_wp2
  go_ret
  exact ⟨rfl, (Gr.refl _).alloc _⟩
theorem perMinute_any (c num den d : Int) (w : World) (hc : 0 ≤ c ∧ c ≤ 60) (hd : 0 ≤ d ∧ d ≤ 4) :
    Calls Tryz.prog 127 #[.agg #[.int .i64 c, .int .i64 num, .int .i64 den, .int .i64 d]] w fun e w' => e = .returned (.int .i64 (60 * c - d)) ∧ Gr w w' := by
  go_enter Tryz.func127, Tryz.ntmps127
  go_wp2
  go_ret
  exact ⟨rfl, (Gr.refl _).alloc _⟩
theorem perDay81_any (c num den d : Int) (w : World) (hc : 0 ≤ c ∧ c ≤ 60) (hd : 0 ≤ d ∧ d ≤ 4) :
    Calls Tryz.prog 81 #[.agg #[.int .i64 c, .int .i64 num, .int .i64 den, .int .i64 d]] w fun e w' => e = .returned (.int .i64 (144 * (600 * c - 9 * d))) ∧ Gr w w' := by
  go_enter Tryz.func81, Tryz.ntmps81
  go_wp2_with fail
  refine (perTen_any c num den d _ hc hd).mono ?_
  rintro e w1 ⟨rfl, hg⟩
  have HG := Lib.hid (((Gr.refl w).alloc (.cells #[.int .i64 c, .int .i64 num, .int .i64 den, .int .i64 d] 145)).trans hg)
  clear hg
  go_wp2
  go_ret
  exact ⟨rfl, HG.out⟩
theorem of_yes (r n : Int) (w : World) (hr : isRate r = true) (h0 : 0 ≤ n) (h1 : n < day r) (hL : Laid w) :
    Calls Tryz.prog 110 #[.int .i64 r, .int .i64 n] w fun e w' => (∃ num den : Int, e = .returned (.tuple #[.agg #[.int .i64 (rcount r), .int .i64 num, .int .i64 den, .int .i64 (rdrop r)], .int .i64 0])) ∧ Gr w w' := by
  have hc := rcount_range r
  have hd := rdrop_range r
  have hz := heap_new w (.cells #[.int .i64 0, .int .i64 0, .int .i64 0, .int .i64 0] 145)
  have hB := (Gr.refl w).alloc (.cells #[.int .i64 0, .int .i64 0, .int .i64 0, .int .i64 0] 145)
  have Hfind := Lib.hid (find_yes r _ hr (hL.grow hB))
  have hday : day r = 144 * (600 * rcount r - 9 * rdrop r) := rfl
  rw [hday] at h1
  obtain ⟨c, hcc⟩ : ∃ c, rcount r = c := ⟨_, rfl⟩
  obtain ⟨d, hdd⟩ : ∃ d, rdrop r = d := ⟨_, rfl⟩
  rw [hcc, hdd] at h1 Hfind ⊢
  rw [hcc] at hc
  rw [hdd] at hd
  clear hcc hdd hr hL hday
  obtain ⟨D, hD⟩ : ∃ D, 144 * (600 * c - 9 * d) = D := ⟨_, rfl⟩
  rw [hD] at h1
  have n1 : decide (D ≤ n) = false := decide_eq_false (by omega)
  have n2 : decide (n < 0) = false := decide_eq_false (by omega)
  go_enter Tryz.func110, Tryz.ntmps110
  go_wp2_with fail
  refine Hfind.out.mono ?_
  rintro e w1 ⟨⟨num, den, rfl⟩, hg⟩
  have HG := Lib.hid (hB.trans hg)
  have hpd := perDay81_any c num den d (w1.alloc (.cells #[.int .i64 c, .int .i64 num, .int .i64 den, .int .i64 d] 145)) hc hd
  rw [hD] at hpd
  have Hpd := Lib.hid hpd
  have hz1 := (hg.below.block _ (Array.getElem?_eq_some_iff.1 hz).1).trans hz
  have Hz1 := Lib.hid (heap_old hz1 (.cells #[.int .i64 c, .int .i64 num, .int .i64 den, .int .i64 d] 145))
  have HX1 := Lib.hid (heap_new w1 (.cells #[.int .i64 c, .int .i64 num, .int .i64 den, .int .i64 d] 145))
  clear hz hB hg hz1 hpd hD
  go_wp2_with fail
  refine Hpd.out.mono ?_
  rintro e w2 ⟨rfl, hg2⟩
  have hz2 := (hg2.below.block _ (Array.getElem?_eq_some_iff.1 Hz1.out).1).trans Hz1.out
  have hx2 := (hg2.below.block _ (Array.getElem?_eq_some_iff.1 HX1.out).1).trans HX1.out
  obtain ⟨c0, c1, c2, c3, cf⟩ := cells4 hz2
  obtain ⟨x0, x1, x2, x3, xf⟩ := cells4 hx2
  have HG2 := Lib.hid ((HG.out.alloc _).trans hg2)
  clear hg2 hz2 hx2
  go_wp2
  exact bodyPost_ret (v := .tuple #[.agg #[.int .i64 c, .int .i64 num, .int .i64 den, .int .i64 d], .int .i64 0]) (by simp [results, Tryz.results110, go_sem, c0, c1, c2, c3]) rfl ⟨⟨num, den, rfl⟩, (((HG2.out.set (p := ⟨w.heap.size, 0, none⟩) (Nat.le_refl _) _).set (p := ⟨w.heap.size, 1, none⟩) (Nat.le_refl _) _).set (p := ⟨w.heap.size, 2, none⟩) (Nat.le_refl _) _).set (p := ⟨w.heap.size, 3, none⟩) (Nat.le_refl _) _⟩

theorem dropped_any (r n num den : Int) (w : World) (hr : isRate r = true) (h0 : 0 ≤ n) (h1 : n < day r) :
    Calls Tryz.prog 111 #[.agg #[.int .i64 (rcount r), .int .i64 num, .int .i64 den, .int .i64 (rdrop r)], .int .i64 n] w fun e w' => e = .returned (.int .i64 (dropped r n)) ∧ Gr w w' := by
  have hc : 24 ≤ rcount r ∧ rcount r ≤ 60 := by rcases isRate_cases hr with rfl | rfl | rfl | rfl | rfl | rfl | rfl <;> decide
  have hd := rdrop_range r
  have hday : day r = 144 * (600 * rcount r - 9 * rdrop r) := rfl
  have hdr : dropped r n = (9 * (n / (600 * rcount r - 9 * rdrop r)) + if 60 * rcount r ≤ n % (600 * rcount r - 9 * rdrop r) then 1 + (n % (600 * rcount r - 9 * rdrop r) - 60 * rcount r) / (60 * rcount r - rdrop r) else 0) * rdrop r := rfl
  rw [hday] at h1
  rw [hdr]
  clear hdr hday hr
  obtain ⟨c, hcc⟩ : ∃ c, rcount r = c := ⟨_, rfl⟩
  obtain ⟨d, hdd⟩ : ∃ d, rdrop r = d := ⟨_, rfl⟩
  rw [hcc, hdd] at h1 ⊢
  rw [hcc] at hc
  rw [hdd] at hd
  clear hcc hdd
  have hpt := fun w => perTen_any c num den d w (by omega) hd
  have hpm := fun w => perMinute_any c num den d w (by omega) hd
  obtain ⟨T, hT⟩ : ∃ T, 600 * c - 9 * d = T := ⟨_, rfl⟩
  obtain ⟨M, hM⟩ : ∃ M, 60 * c - d = M := ⟨_, rfl⟩
  have hTb : 14000 ≤ T ∧ T ≤ 36000 := by omega
  have hMb : 1400 ≤ M ∧ M ≤ 3600 := by omega
  simp only [hT, hM] at hpt hpm h1 ⊢
  obtain ⟨Q, hQ⟩ : ∃ Q, n / T = Q := ⟨_, rfl⟩
  obtain ⟨R, hR⟩ : ∃ R, n % T = R := ⟨_, rfl⟩
  have hQb : 0 ≤ Q ∧ Q < 144 := by
    rw [← hQ]
    exact ⟨Int.ediv_nonneg h0 (by omega), Int.ediv_lt_of_lt_mul (by omega) (by omega)⟩
  have hRb : 0 ≤ R ∧ R < T := by
    rw [← hR]
    exact ⟨Int.emod_nonneg _ (by omega), Int.emod_lt_of_pos _ (by omega)⟩
  rw [hQ, hR]
  have hF : 1440 ≤ 60 * c ∧ 60 * c ≤ 3600 := by omega
  obtain ⟨F, hFF⟩ : ∃ F, 60 * c = F := ⟨_, rfl⟩
  rw [hFF] at hF ⊢
  have Hpt := Lib.hid hpt
  have Hpm := Lib.hid hpm
  have hnd : n < 144 * T := h1
  have hn5 : n ≤ 6000000 := by omega
  clear hpt hpm hT hM h1
  have hz := heap_new w (.cells #[.int .i64 c, .int .i64 num, .int .i64 den, .int .i64 d] 145)
  have hB := (Gr.refl w).alloc (.cells #[.int .i64 c, .int .i64 num, .int .i64 den, .int .i64 d] 145)
  obtain ⟨x0, x1, x2, x3, xf⟩ := cells4 hz
  have hQ' : n.tdiv T = Q := by rw [Int.tdiv_eq_ediv_of_nonneg h0, hQ]
  have hR' : n.tmod T = R := by rw [Int.tmod_eq_emod_of_nonneg h0, hR]
  have hT0 : (T == 0) = false := beq_eq_false_iff_ne.2 (by omega)
  have hT1 : ¬ T = 0 := by omega
  have hwQ : IntKind.i64.wrap Q = Q := IntWalk.i64_in _ (by omega)
  have hwR : IntKind.i64.wrap R = R := IntWalk.i64_in _ (by omega)
  by_cases hfr : F ≤ R
  · rw [if_pos hfr]
    obtain ⟨G, hG⟩ : ∃ G, (R - F) / M = G := ⟨_, rfl⟩
    have hGb : 0 ≤ G ∧ G ≤ 36000 := by
      rw [← hG]
      refine ⟨Int.ediv_nonneg (by omega) (by omega), ?_⟩
      have : (R - F) / M ≤ R - F := Int.ediv_le_self _ (by omega)
      omega
    rw [hG]
    have hdb : 0 ≤ (9 * Q + (1 + G)) * d ∧ (9 * Q + (1 + G)) * d ≤ 40000 * 4 := by
      refine ⟨Int.mul_nonneg (by omega) hd.1, Int.mul_le_mul (by omega) hd.2 hd.1 (by omega)⟩
    go_enter Tryz.func111, Tryz.ntmps111
    go_wp2
    go_region_held3 (fun w' => Gr w w' ∧ w'.cell? ⟨w.heap.size, 0, none⟩ = some (.int .i64 c) ∧ w'.cell? ⟨w.heap.size, 1, none⟩ = some (.int .i64 num) ∧ w'.cell? ⟨w.heap.size, 2, none⟩ = some (.int .i64 den) ∧ w'.cell? ⟨w.heap.size, 3, none⟩ = some (.int .i64 d)) (first | assumption | exact ⟨hB.drew, x0, x1, x2, x3⟩ | (obtain ⟨hq1, hq2, hq3, hq4, hq5⟩ := ‹Gr w _ ∧ _ ∧ _ ∧ _ ∧ _›; exact ⟨hq1.trans hg, hg.cell hq2, hg.cell hq3, hg.cell hq4, hg.cell hq5⟩))
      ((go_at_call 106; refine (Hpt.out _).mono ?_; rintro e w' ⟨rfl, hg⟩))
    rename_i hS
    obtain ⟨hG1, b0, b1, b2, b3⟩ := hS
    have HG1 := Lib.hid hG1
    have hM0 : (M == 0) = false := beq_eq_false_iff_ne.2 (by omega)
    have hG' : (R - F).tdiv M = G := by rw [Int.tdiv_eq_ediv_of_nonneg (by omega), hG]
    have hwG : IntKind.i64.wrap G = G := IntWalk.i64_in _ (by omega)
    clear hg hG1 hQ hR hQ' hR' x0 x1 x2 x3 xf hz hB
    go_wp2_with fail
    refine (Hpm.out _).mono ?_
    rintro e w2 ⟨rfl, hg2⟩
    have c3 := hg2.cell b3
    have HG2 := Lib.hid (HG1.out.trans hg2)
    clear hg2 b0 b1 b2 b3
    go_wp2
    go_ret
    exact ⟨rfl, HG2.out⟩
  · rw [if_neg hfr]
    have hdb : 0 ≤ (9 * Q) * d ∧ (9 * Q) * d ≤ 40000 * 4 := by
      refine ⟨Int.mul_nonneg (by omega) hd.1, Int.mul_le_mul (by omega) hd.2 hd.1 (by omega)⟩
    rw [Int.add_zero]
    go_enter Tryz.func111, Tryz.ntmps111
    go_wp2
    go_region_held3 (fun w' => Gr w w' ∧ w'.cell? ⟨w.heap.size, 0, none⟩ = some (.int .i64 c) ∧ w'.cell? ⟨w.heap.size, 1, none⟩ = some (.int .i64 num) ∧ w'.cell? ⟨w.heap.size, 2, none⟩ = some (.int .i64 den) ∧ w'.cell? ⟨w.heap.size, 3, none⟩ = some (.int .i64 d)) (first | assumption | exact ⟨hB.drew, x0, x1, x2, x3⟩ | (obtain ⟨hq1, hq2, hq3, hq4, hq5⟩ := ‹Gr w _ ∧ _ ∧ _ ∧ _ ∧ _›; exact ⟨hq1.trans hg, hg.cell hq2, hg.cell hq3, hg.cell hq4, hg.cell hq5⟩))
      ((go_at_call 106; refine (Hpt.out _).mono ?_; rintro e w' ⟨rfl, hg⟩))
    rename_i hS
    obtain ⟨hG1, b0, b1, b2, b3⟩ := hS
    have HG1 := Lib.hid hG1
    clear hg hG1 hQ hR hQ' hR' x0 x1 x2 x3 xf hz hB
    go_wp2
    go_ret
    exact ⟨rfl, HG1.out⟩

/-- What two answers: the row, two bytes longer. -/
def RowEnd (B : Nat) (v : Value) (w : World) (l : List UInt8) (e : Ending) (w' : World) : Prop :=
  ∃ v', e = .returned v' ∧ w'.ownsRow B 5 1 v' l.length (Lib.byteCells l) ∧ ∃ o, (w.alloc o).grownBy w' v.ownBlock
theorem two_cells {n : Int} (h0 : 0 ≤ n) (h1 : n < 100) : Lib.byteCells (two n) = [.int .u8 (48 + n / 10), .int .u8 (48 + n % 10)] := by
  have e1 : (UInt8.ofNat (48 + (n / 10).toNat)).toNat = 48 + (n / 10).toNat := by rw [UInt8.toNat_ofNat']; omega
  have e2 : (UInt8.ofNat (48 + (n % 10).toNat)).toNat = 48 + (n % 10).toNat := by rw [UInt8.toNat_ofNat']; omega
  simp only [two, Lib.byteCells, List.map_cons, List.map_nil, e1, e2, List.cons.injEq, Value.int.injEq, true_and, and_true]
  omega
theorem two_any (B : Nat) (v : Value) (l : List UInt8) (n : Int) (w : World) (h0 : 0 ≤ n) (h1 : n < 100) (hown : w.ownsRow B 5 1 v l.length (Lib.byteCells l)) (hl : l.length ≤ 1000) (hB : B ≤ w.heap.size) :
    Calls Tryz.prog 112 #[v, .int .i64 n] w fun e w' => RowEnd B v w (l ++ two n) e w' := by
  obtain ⟨i0, hi, hz0, hz1, hz2⟩ := info_parts info5
  have Hcells := Lib.hid (show Lib.byteCells (l ++ two n) = Lib.byteCells l ++ [.int .u8 (48 + n / 10), .int .u8 (48 + n % 10)] by rw [byteCells_append, two_cells h0 h1])
  have Hlen := Lib.hid (show (l ++ two n).length = l.length + 2 by simp [two])
  obtain ⟨a, ha⟩ : ∃ a, n / 10 = a := ⟨_, rfl⟩
  obtain ⟨b, hb⟩ : ∃ b, n % 10 = b := ⟨_, rfl⟩
  have hab : (0 ≤ a ∧ a < 10) ∧ 0 ≤ b ∧ b < 10 := by omega
  rw [ha, hb] at Hcells
  have Hown := Lib.hid hown
  clear hown
  go_enter Tryz.func112, Tryz.ntmps112
  go_wp2_with (at_builtin; refine wpList_append_own _ rfl (.tmp 5) (.tmp 14) 160 rfl B 5 i0 (.int .u8 0) 1 1 Tryz.underlying160 hi hz0 hz1 hz2 rfl (by decide) _ _ _ rfl (Hown.out.alloc _) ⟨w.heap.size, 0, none⟩ 2 2 [.int .u8 (48 + a), .int .u8 (48 + b)] rfl rfl ?c1 ?c2 ?c3 ?c4 ?c5 ?_)
  case c1 => exact fun j u hj => cells_new rfl _ _ j u hj
  case c2 => intro u hu; simp only [List.mem_cons, List.not_mem_nil, or_false] at hu; rcases hu with rfl | rfl <;> rfl
  case c3 => unfold maxLen; omega
  case c4 => omega
  case c5 => simp; omega
  intro v' w2 hown' hg _
  have HO := Lib.hid hown'
  have HG := Lib.hid hg
  clear hown' hg
  go_wp2
  go_ret
  exact ⟨v', rfl, by rw [Hcells.out, Hlen.out]; exact HO.out, _, HG.out⟩
end Go.Proofs.Cuts
