/-
  What the rows' condition on the listed variables gives the walks; a world for the witness. No conditions.
-/
import Derived.Test.YtgimedhfhpiipaaGreatDoorRows
import Derived.Test.YtgimedhfhpiipaaGreatDoorBase
import Derived.Test.YtgimedhfhpiipaaGreatDoorShelf
import Derived.Lib.LaidU8
import Derived.LaidHandle
import Derived.LaidLaws
namespace Go.Proofs.Cuts
open Go.RowKit Go.Lib Go.Proofs.YtgimedhfhpiipaaGreatDoor

theorem own : ownKnob Tryz.prog.godebug = none := by kernel_rfl
/-- What all five rows list. -/
def rowLaid : List (String × DataW Unit) := Rows.cutsNamesRow.laid
theorem laid_parses : Rows.cutsParsesRow.laid = rowLaid := rfl
theorem laid_blanks : Rows.cutsBlanksRow.laid = rowLaid := rfl
theorem laid_lengths : Rows.cutsLengthsRow.laid = rowLaid := rfl
theorem laid_back : Rows.cutsBackRow.laid = rowLaid := rfl

theorem gEt : Tryz.prog.globalNamed "errors.errorType" = some 0 := by kernel_rfl
theorem gTab : Tryz.prog.globalNamed "dailies/timecode.table" = some 3 := by kernel_rfl
theorem tTab : (Tryz.prog.globals[3]?).map (·.type) = some 188 := by kernel_rfl
theorem tPow : (Tryz.prog.globals[7]?).map (·.type) = some 224 := by kernel_rfl
theorem tSyn : (Tryz.prog.globals[5]?).map (·.type) = some 32 := by kernel_rfl
theorem tRan : (Tryz.prog.globals[6]?).map (·.type) = some 32 := by kernel_rfl
theorem rtype : (Tryz.prog.cutTypes.find? (·.1 == "internal/reflectlite.rtype")).map (·.2) = some 163 := by kernel_rfl
theorem tySize : Tryz.prog.types.size = 264 := by kernel_rfl
theorem oneRow : ((List.range 264).filter fun t => Tryz.prog.rowNamed t [101, 114, 114, 111, 114]) = [32] := by kernel_rfl
theorem lays260 : Lays.n260 Tryz.prog Tryz.lays197_ren :=
  let L := Tryz.lays197
  ⟨L.mixed, L.f260, L.t0, L.a0, L.z0, L.v0, L.t3, L.a3, L.z3, L.v3, L.t4, L.a4, L.z4, L.v4, L.t5, L.a5, L.z5, L.v5, L.t9, L.a9, L.z9, L.v9, L.t21, L.a21, L.z21, L.v21, L.t46, L.a46, L.z46, L.v46, L.t119, L.a119, L.z119, L.t138, L.a138, L.z138, L.v138, L.t139, L.a139, L.z139, L.v139, L.g3, L.g4⟩
theorem u8extra : U8Extra Tryz.prog Tryz.lays197_ren := ⟨by kernel_rfl, by kernel_rfl, by kernel_rfl, by kernel_rfl, by kernel_rfl, by kernel_rfl, by kernel_rfl⟩
theorem firstData_is : Go.Pinned.utf8First = firstData := by kernel_rfl
theorem acceptData_is : (Rows.laid_unicode_utf8_acceptRanges : DataW Unit) = acceptData := by kernel_rfl
theorem pow_is : (Rows.laid_internal_strconv_uint64pow10 : DataW Unit) = tabData .u64 pow10Tab := by kernel_rfl
theorem c5 : Tryz.prog.cellsOf 5 = 1 := by kernel_rfl
theorem c3 : Tryz.prog.cellsOf 3 = 1 := by kernel_rfl
theorem c145 : Tryz.prog.cellsOf 145 = 4 := by kernel_rfl
theorem c188 : Tryz.prog.cellsOf 188 = 32 := by kernel_rfl
theorem c159 : Tryz.prog.cellsOf 159 = 1 := by kernel_rfl
theorem c224 : Tryz.prog.cellsOf 224 = 20 := by kernel_rfl

/-- The list without the handle; the handle. -/
def plainLaid : List (String × DataW Unit) := rowLaid.filter fun x => x.2.handleName?.isNone
theorem laid_parts {W : World} (h : laidMetH Tryz.prog rowLaid W) : laidMet Tryz.prog plainLaid W ∧ handlesMet Tryz.prog [("errors.errorType", Rows.laid_errors_errorType)] W := h

theorem et_of {W : World} (h : handlesMet Tryz.prog [("errors.errorType", Rows.laid_errors_errorType)] W) : W.cell? ⟨0, 0, none⟩ = some (.iface 163 (.agg #[.pointer (some ⟨15, 32, none⟩)])) := by
  obtain ⟨name, u, ty, e1, e2, e3, e4, e5⟩ := h _ (List.mem_singleton.2 rfl)
  have en : name = [101, 114, 114, 111, 114] := (Option.some.inj e1).symm
  subst en
  obtain rfl := Option.some.inj (rtype.symm.trans e2)
  have hm : ty ∈ (List.range 264).filter fun t => Tryz.prog.rowNamed t [101, 114, 114, 111, 114] := List.mem_filter.2 ⟨List.mem_range.2 (by rw [← tySize]; exact e3), e4⟩
  rw [oneRow] at hm
  obtain rfl := List.mem_singleton.1 hm
  have hh : typeHandle Tryz.prog 32 = .pointer (some ⟨15, 32, none⟩) := by kernel_rfl
  rw [hh] at e5
  simpa using World.var?_cell gEt e5 0

theorem sentinel_of {W : World} {n : String} {d : DataW Unit} {g : Nat} (h : VarReads Tryz.prog W n (.iface "*errors.errorString" d)) (hg : Tryz.prog.globalNamed n = some g) (ht : (Tryz.prog.globals[g]?).map (·.type) = some 32) : ∃ tp p, W.var? Tryz.prog n = some #[.iface tp p] := by
  obtain ⟨g', t, cs, fuel, p, e1, e2, e3, e4⟩ := h
  obtain rfl := Option.some.inj (hg.symm.trans e1)
  obtain rfl := Option.some.inj (ht.symm.trans e2)
  obtain ⟨f1, u, v, hcs, hn, h1⟩ := iface_of_trod Tryz.underlying32 e4
  refine ⟨u, v, e3.trans (congrArg some ?_)⟩
  apply Array.toList_inj.1
  exact hcs
/-- The rows of the timecode's table. -/
def rateRow (r : Nat) : List Int := match r with
  | 1 => [24, 24, 1, 0] | 2 => [25, 25, 1, 0] | 3 => [30, 30, 1, 0] | 4 => [30, 30000, 1001, 2] | 5 => [50, 50, 1, 0] | 6 => [60, 60, 1, 0] | 7 => [60, 60000, 1001, 4] | _ => [0, 0, 0, 0]
theorem tab_is : (Rows.laid_dailies_timecode_table : DataW Unit) = .agg ((List.range 8).map fun r => .agg ((rateRow r).map fun z => .lit (.int .i64 z))) := by kernel_rfl
theorem tab_of {W : World} (h : VarReads Tryz.prog W "dailies/timecode.table" Rows.laid_dailies_timecode_table) : ∀ r : Nat, r < 8 → ∀ i, i < 4 → W.cell? ⟨3, r * 4 + i, none⟩ = some (.int .i64 ((rateRow r).getD i 0)) := by
  intro r hr i hi
  obtain ⟨g, t, cs, fuel, p, hg, hty, hvar, hd⟩ := h
  obtain rfl := Option.some.inj (gTab.symm.trans hg)
  obtain rfl := Option.some.inj (tTab.symm.trans hty)
  rw [tab_is] at hd
  obtain ⟨fuel', d, q, hdi, he⟩ := array_elem Tryz.underlying188 hd r hr
  simp only [List.getElem?_map, List.getElem?_range hr, Option.map_some, Option.some.injEq] at hdi
  subst hdi
  rw [c145] at he
  have hcs := ints_of_struct Tryz.underlying145 (fun j f hj => by
    match j, hj with
    | 0, hj => simp at hj; subst hj; exact ⟨Tryz.underlying3, rfl, c3⟩
    | 1, hj => simp at hj; subst hj; exact ⟨Tryz.underlying3, rfl, c3⟩
    | 2, hj => simp at hj; subst hj; exact ⟨Tryz.underlying3, rfl, c3⟩
    | 3, hj => simp at hj; subst hj; exact ⟨Tryz.underlying3, rfl, c3⟩
    | j + 4, hj => simp at hj) (by rw [c145]; rfl) he
  have e0 := congrArg (·[i]?) hcs
  simp only [List.getElem?_take, List.getElem?_drop, if_pos hi] at e0
  rw [World.var?_cell hg hvar (r * 4 + i), ← Array.getElem?_toList, e0]
  have hl : (rateRow r).length = 4 := by
    unfold rateRow; split <;> rfl
  rw [List.getElem?_map, List.getElem?_eq_getElem (by omega)]
  simp [List.getD, List.getElem?_eq_getElem (show i < (rateRow r).length by omega)]

theorem mem_plain {x : String × DataW Unit} (i : Nat) (h : plainLaid[i]? = some x) : x ∈ plainLaid := List.mem_of_getElem? h
/-- What the condition gives the walks. -/
theorem of_laid {W : World} (h : laidMetH Tryz.prog rowLaid W) (hs : 20 ≤ W.heap.size) : Laid W := by
  obtain ⟨h1, h2⟩ := laid_parts h
  have r2 := laidMet.reads h1 (mem_plain (x := ("internal/strconv.uint64pow10", Rows.laid_internal_strconv_uint64pow10)) 2 rfl)
  have r3 := laidMet.reads h1 (mem_plain (x := ("unicode/utf8.acceptRanges", Rows.laid_unicode_utf8_acceptRanges)) 3 rfl)
  have r4 := laidMet.reads h1 (mem_plain (x := ("strconv.ErrRange", Rows.laid_strconv_ErrRange)) 4 rfl)
  have r5 := laidMet.reads h1 (mem_plain (x := ("strconv.ErrSyntax", Rows.laid_strconv_ErrSyntax)) 5 rfl)
  have r6 := laidMet.reads h1 (mem_plain (x := ("dailies/timecode.table", Rows.laid_dailies_timecode_table)) 6 rfl)
  have r7 := laidMet.reads h1 (mem_plain (x := ("unicode/utf8.first", Rows.laid_unicode_utf8_first)) 7 rfl)
  rw [pow_is] at r2
  rw [acceptData_is] at r3
  rw [show (Rows.laid_unicode_utf8_first : DataW Unit) = firstData from firstData_is] at r7
  have ht := tab_of r6
  refine ⟨hs, et_of h2, utf8Tabs_of_reads lays260 u8extra r7 r3, ?_, ?_, sentinel_of r5 gSyn tSyn, sentinel_of r4 gRan tRan⟩
  · intro r k1 k7
    have t0 := ht r (by omega) 0 (by omega)
    have t1 := ht r (by omega) 1 (by omega)
    have t2 := ht r (by omega) 2 (by omega)
    have t3 := ht r (by omega) 3 (by omega)
    rw [Nat.add_zero] at t0
    have hr : r = 1 ∨ r = 2 ∨ r = 3 ∨ r = 4 ∨ r = 5 ∨ r = 6 ∨ r = 7 := by omega
    rcases hr with rfl | rfl | rfl | rfl | rfl | rfl | rfl <;> exact ⟨_, _, t0, t1, t2, t3⟩
  · obtain ⟨g, t, cs, fuel, p, hg, hty, hvar, hd⟩ := r2
    obtain rfl := Option.some.inj (gPow.symm.trans hg)
    obtain rfl := Option.some.inj (tPow.symm.trans hty)
    have hcs := cells_of_tab Tryz.underlying224 Tryz.underlying159 c159 c224 hd
    unfold TabIs
    rw [hvar, ← hcs]
end Go.Proofs.Cuts
