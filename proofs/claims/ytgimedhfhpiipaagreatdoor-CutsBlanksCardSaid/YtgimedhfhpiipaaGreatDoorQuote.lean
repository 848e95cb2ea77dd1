/-
  cuts.quote reads a text whose quote is the first byte. Conditions: the listed variables lie in the world; the text has at most 20000 bytes.
-/
import Derived.Test.YtgimedhfhpiipaaGreatDoorIndexAny
import Derived.Laws.BytesArg
import Derived.Deep.DeepCutAuto
namespace Go.Proofs.Cuts
open Go.RowKit

theorem info5 : (Tryz.prog.info? 5).map (fun i => (i.zero, i.size, i.bytes)) = some (some (.int .u8 0), 1, 1) := by kernel_rfl
theorem byteCells_append (a b : List UInt8) : Lib.byteCells (a ++ b) = Lib.byteCells a ++ Lib.byteCells b := by simp [Lib.byteCells]
/-- A row of bytes that the call owns, as a string. -/
theorem own_string {w : World} {B : Nat} {v : Value} {l : List UInt8} (h : w.ownsRow B 5 1 v l.length (Lib.byteCells l)) : (convert 160 9 v).run Tryz.prog w = .ok (.string (ba l)) w := by
  rcases h.2 with ⟨rfl, h0⟩ | ⟨g, cap, cur, rfl, hb, hg, hn, hc, hcur, htk⟩
  · obtain rfl := List.eq_nil_of_length_eq_zero h0
    exact run_convert_bytes_nil w 160 5 Tryz.underlying160 Tryz.underlying5 0 0 9 Tryz.underlying9
  · have := run_convert_bytes_arg w 160 5 Tryz.underlying160 Tryz.underlying5 g 0 l.length cap (l.map fun b => (b.toNat : Int)) (by simp) (fun i hi => by
      have hx : cur.toList[i]? = some (.int .u8 (l[i].toNat : Int)) := by
        have h1 : (cur.toList.take (l.length * 1))[i]? = some (.int .u8 (l[i].toNat : Int)) := by rw [htk]; simp [Lib.byteCells, hi]
        rw [List.getElem?_take] at h1
        split at h1
        · exact h1
        · cases h1
      rw [show (0 : Nat) + i = i by omega]
      simp only [World.cell?, hg]
      simp only [Option.isSome_none, Bool.false_eq_true, if_false]
      rw [← Array.getElem?_toList, hx]
      simp [List.getD, hi]) 9 Tryz.underlying9
    rw [this]
    have e : strOfNums (l.map fun b => (b.toNat : Int)) = ba l := by
      unfold strOfNums ba
      rw [List.map_map]
      have : ((fun n : Int => UInt8.ofNat n.toNat) ∘ fun b : UInt8 => (b.toNat : Int)) = id := by funext b; simp
      rw [this, List.map_id]
    rw [e]

/-- What is known in the midst of quote. -/
structure QInv (w0 wr : World) (s1 : ByteArray) (p : Nat) (bad : Bool) (v : Value) (out : List UInt8) : Prop where
  gr : Gr w0 wr
  b0 : wr.heap[w0.heap.size]? = some (.cells #[.int .i64 0, .string ⟨#[]⟩, .bool false, .bool false] 114 (0, 0))
  b1 : wr.heap[w0.heap.size + 1]? = some (.cells #[.int .i64 0, .string ⟨#[]⟩, .bool true, .bool bad] 114 (0, 0))
  it : wr.heap[w0.heap.size + 1 + 1]? = some (.stringIter s1 p)
  own : wr.ownsRow (w0.heap.size + 3) 5 1 v out.length (Lib.byteCells out)

theorem own_ge {w : World} {B : Nat} {e size n : Nat} {v : Value} {xs : List Value} (h : w.ownsRow B e size v n xs) (k : Nat) (hk : v.ownBlock = some k) : B ≤ k ∧ k < w.heap.size := by
  rcases h.2 with ⟨rfl, _⟩ | ⟨g, cap, cur, rfl, hb, hg, _⟩
  · simp [Value.ownBlock] at hk
  · have : g = k := by simpa [Value.ownBlock] using hk
    subst this
    exact ⟨hb, (Array.getElem?_eq_some_iff.1 hg).1⟩
theorem QInv.size {w0 wr : World} {s1 : ByteArray} {p : Nat} {bad : Bool} {v : Value} {out : List UInt8} (h : QInv w0 wr s1 p bad v out) : w0.heap.size + 3 ≤ wr.heap.size := by
  have := (Array.getElem?_eq_some_iff.1 h.it).1
  omega
theorem QInv.iter {w0 wr : World} {s1 : ByteArray} {p : Nat} {bad : Bool} {v : Value} {out : List UInt8} (h : QInv w0 wr s1 p bad v out) (q : Nat) : QInv w0 (wr.iterAt (w0.heap.size + 1 + 1) s1 q) s1 q bad v out := by
  refine ⟨h.gr.iterAt (by omega) s1 q, ?_, ?_, Lib.iterAt_heap wr _ s1 p q h.it, ?_⟩
  · rw [Lib.iterAt_other _ _ _ _ _ (by omega)]; exact h.b0
  · rw [Lib.iterAt_other _ _ _ _ _ (by omega)]; exact h.b1
  · refine ⟨h.own.1, ?_⟩
    rcases h.own.2 with hn | ⟨g, cap, cur, hv, hb, hg, rest⟩
    · exact .inl hn
    · exact .inr ⟨g, cap, cur, hv, hb, by rw [Lib.iterAt_other _ _ _ _ _ (by omega)]; exact hg, rest⟩
theorem QInv.grown {w0 wr w' : World} {s1 : ByteArray} {p : Nat} {bad : Bool} {v v' : Value} {out out' : List UInt8} (h : QInv w0 wr s1 p bad v out) {o : Obj} (hg : (wr.alloc o).grownBy w' v.ownBlock)
    (hown : w'.ownsRow (w0.heap.size + 3) 5 1 v' out'.length (Lib.byteCells out')) : QInv w0 w' s1 p bad v' out' := by
  have hsz := h.size
  have hrow : ∀ k, k < w0.heap.size + 3 → some k ≠ v.ownBlock := fun k hk e => by have := own_ge h.own k e.symm; omega
  have hold : ∀ k, k < w0.heap.size + 3 → w'.heap[k]? = wr.heap[k]? := fun k hk => by
    rw [hg.block k (by simp; omega) (hrow k hk)]
    exact Below.heap_alloc wr o k (by omega)
  refine ⟨(h.gr.alloc o).grown hg (fun k hk => by have := own_ge h.own k hk; omega), ?_, ?_, ?_, hown⟩
  · rw [hold _ (by omega)]; exact h.b0
  · rw [hold _ (by omega)]; exact h.b1
  · rw [hold _ (by omega)]; exact h.it
theorem QInv.setBad {w0 wr : World} {s1 : ByteArray} {p : Nat} {bad : Bool} {v : Value} {out : List UInt8} (h : QInv w0 wr s1 p bad v out) : QInv w0 (wr.setCell ⟨w0.heap.size + 1, 3, none⟩ (.bool true)) s1 p true v out := by
  refine ⟨h.gr.set (by show _ ≤ w0.heap.size + 1; omega) _, ?_, ?_, ?_, ?_⟩
  · rw [Below.heap_setCell _ _ _ _ (by show _ ≠ w0.heap.size + 1; omega)]; exact h.b0
  · exact set_block h.b1 _
  · rw [Below.heap_setCell _ _ _ _ (by show _ ≠ w0.heap.size + 1; omega)]; exact h.it
  · exact ownsRow_setCell_below h.own (by show w0.heap.size + 1 < _; omega) _
end Go.Proofs.Cuts
