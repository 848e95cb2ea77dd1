/-
  What all walks of this family use: the listed variables as facts on a world, the element types' rows, worlds that only grow. No conditions.
-/
import Derived.Test.YtgimedhfhpiipaaGreatDoorProg
import Derived.Test.YtgimedhfhpiipaaGreatDoorSpec
import Derived.WalkKit
import Derived.KernelRfl
import Derived.Below
import Derived.OwnWalk
import Derived.OneCell
import Derived.Deep.LoopGhost
import Derived.Deep.QuietTactic
import Derived.BigQuiet
import Derived.Deep.DeepFit
import Derived.Deep.RegionWith
import Derived.Deep.Cut
import Derived.Lib.Hide
import Derived.Lib.LaidTab
import Derived.Lib.ItoaMem
import Derived.WalkSmall
import Derived.Laws.NewBlocks
import Derived.Shelf.Unicode.DecodeSlow
namespace Go.Proofs.Cuts
open Go.RowKit

/-- The world has only grown: what there was is as it was. -/
def Gr (w w' : World) : Prop := Below w.heap.size w w'
theorem Gr.below {w w' : World} (h : Gr w w') : Below w.heap.size w w' := h
theorem Gr.refl (w : World) : Gr w w := Below.refl _ _
theorem Gr.size {w w' : World} (h : Gr w w') : w.heap.size ≤ w'.heap.size := Below.size h
theorem Gr.alloc {w a : World} (h : Gr w a) (o : Obj) : Gr w (a.alloc o) := Below.alloc h h.size o
theorem Gr.drew {w a : World} (h : Gr w a) : Gr w a.drew := Below.drew h
theorem Gr.drewN {w a : World} (h : Gr w a) (n : Nat) : Gr w (a.drewN n) := ⟨h.below.os, h.below.tape, h.below.output, h.below.size, h.below.block⟩
theorem Gr.trans {w a b : World} (h : Gr w a) (k : Gr a b) : Gr w b := Below.trans h (Below.mono k h.size)
theorem Gr.set {w a : World} (h : Gr w a) {p : Addr} (hp : w.heap.size ≤ p.block) (u : Value) : Gr w (a.setCell p u) := Below.setCell h hp u
theorem Gr.grown {w a b : World} {row : Option Nat} (h : Gr w a) (hg : a.grownBy b row) (hr : ∀ k, row = some k → w.heap.size ≤ k) : Gr w b := Below.grown h hg h.size hr
theorem Gr.cell {w w' : World} (h : Gr w w') {p : Addr} {v : Value} (hc : w.cell? p = some v) : w'.cell? p = some v := (Below.cell h (World.block_lt_of_cell? w p hc)).trans hc

theorem heap_new (w : World) (o : Obj) : (w.alloc o).heap[w.heap.size]? = some o := by
  show (w.heap.push o)[w.heap.size]? = _
  simp

theorem heap_new_at {w : World} {k : Nat} (h : k = w.heap.size) (o : Obj) : (w.alloc o).heap[k]? = some o := by
  subst h; exact heap_new w o
theorem heap_old {w : World} {k : Nat} {x : Obj} (h : w.heap[k]? = some x) (o : Obj) : (w.alloc o).heap[k]? = some x := by
  rw [Below.heap_alloc _ _ _ (Array.getElem?_eq_some_iff.1 h).1]; exact h
/-- A store into a cell of a known block. -/
theorem set_block {w : World} {b i : Nat} {cs : Array Value} {t : TypeId} {fz : Nat × Nat} (h : w.heap[b]? = some (.cells cs t fz)) (u : Value) : (w.setCell ⟨b, i, none⟩ u).heap[b]? = some (.cells (cs.setIfInBounds i u) t fz) := by
  have hlt := (Array.getElem?_eq_some_iff.1 h).1
  have h' : w.heap[b] = .cells cs t fz := by simpa [Array.getElem?_eq_getElem hlt] using h
  show (w.heap.modify b _)[b]? = _
  rw [Array.getElem?_eq_getElem (by simpa using hlt), Array.getElem_modify_self, h']
  rfl

theorem gPow : Tryz.prog.globalNamed "internal/strconv.uint64pow10" = some 7 := by kernel_rfl
theorem gSyn : Tryz.prog.globalNamed "strconv.ErrSyntax" = some 5 := by kernel_rfl
theorem gRan : Tryz.prog.globalNamed "strconv.ErrRange" = some 6 := by kernel_rfl

/-- What a walk needs of the listed variables. -/
structure Laid (w : World) : Prop where
  size : 20 ≤ w.heap.size
  et : w.cell? ⟨0, 0, none⟩ = some (.iface 163 (.agg #[.pointer (some ⟨15, 32, none⟩)]))
  u8 : Lib.Utf8Tabs 1 2 w
  tab : ∀ r : Nat, 1 ≤ r → r ≤ 7 → ∃ num den : Int, w.cell? ⟨3, r * 4, none⟩ = some (.int .i64 (rcount r)) ∧ w.cell? ⟨3, r * 4 + 1, none⟩ = some (.int .i64 num) ∧ w.cell? ⟨3, r * 4 + 2, none⟩ = some (.int .i64 den) ∧ w.cell? ⟨3, r * 4 + 3, none⟩ = some (.int .i64 (rdrop r))
  pow : Lib.TabIs Tryz.prog w "internal/strconv.uint64pow10" .u64 Lib.pow10Tab
  syn : ∃ tp p, w.var? Tryz.prog "strconv.ErrSyntax" = some #[.iface tp p]
  ran : ∃ tp p, w.var? Tryz.prog "strconv.ErrRange" = some #[.iface tp p]

theorem Laid.below {B : Nat} {w w' : World} (h : Laid w) (hb : Below B w w') (hB : 20 ≤ B) : Laid w' := by
  refine ⟨Nat.le_trans h.size hb.size, ?_, ⟨fun c hc => ?_, fun i hi => ⟨?_, ?_⟩⟩, fun r h1 h7 => ?_, ?_, ?_, ?_⟩
  · exact (hb.cell (p := ⟨0, 0, none⟩) (by show 0 < B; omega)).trans h.et
  · exact (hb.cell (p := ⟨1, c, none⟩) (by show 1 < B; omega)).trans (h.u8.1 c hc)
  · exact (hb.cell (p := ⟨2, 2 * i, none⟩) (by show 2 < B; omega)).trans (h.u8.2 i hi).1
  · exact (hb.cell (p := ⟨2, 2 * i + 1, none⟩) (by show 2 < B; omega)).trans (h.u8.2 i hi).2
  · obtain ⟨num, den, a, b, c, d⟩ := h.tab r h1 h7
    exact ⟨num, den, (hb.cell (p := ⟨3, r * 4, none⟩) (by show 3 < B; omega)).trans a, (hb.cell (p := ⟨3, r * 4 + 1, none⟩) (by show 3 < B; omega)).trans b, (hb.cell (p := ⟨3, r * 4 + 2, none⟩) (by show 3 < B; omega)).trans c, (hb.cell (p := ⟨3, r * 4 + 3, none⟩) (by show 3 < B; omega)).trans d⟩
  · exact var?_below hb gPow (by omega) h.pow
  · obtain ⟨tp, p, hv⟩ := h.syn
    exact ⟨tp, p, var?_below hb gSyn (by omega) hv⟩
  · obtain ⟨tp, p, hv⟩ := h.ran
    exact ⟨tp, p, var?_below hb gRan (by omega) hv⟩
theorem Laid.grow {w w' : World} (h : Laid w) (hb : Gr w w') : Laid w' := Laid.below h hb h.size
theorem Laid.alloc {w : World} (h : Laid w) (o : Obj) : Laid (w.alloc o) := h.grow ((Gr.refl _).alloc o)
theorem Laid.drew {w : World} (h : Laid w) : Laid w.drew := h.grow (Gr.refl _).drew
end Go.Proofs.Cuts
