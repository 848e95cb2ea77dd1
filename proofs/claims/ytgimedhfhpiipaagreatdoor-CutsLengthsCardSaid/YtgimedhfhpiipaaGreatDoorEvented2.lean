/-
  evented returns true of the event's error that it asks for. Conditions: the numbers are from 1 to 999; the listed variables lie in the world; the error's block lies there.
-/
import Derived.Test.YtgimedhfhpiipaaGreatDoorEvented
namespace Go.Proofs.Cuts
open Go.RowKit

theorem blk_cell {w : World} {b T : Nat} {cs : Array Value} (h : w.heap[b]? = some (.cells cs T (0, 0))) (i : Nat) : w.cell? ⟨b, i, none⟩ = cs[i]? := by simp [World.cell?, h]
theorem blk_free {w : World} {b T : Nat} {cs : Array Value} (h : w.heap[b]? = some (.cells cs T (0, 0))) (i : Nat) : w.frozen? ⟨b, i, none⟩ = false := by simp [World.frozen?, h]
theorem unwrap_any (b : Nat) (e : Int) (w : World) (h1 : w.cell? ⟨b, 1, none⟩ = some (.int .i64 e)) :
    Calls Tryz.prog 47 #[.pointer (some ⟨b, 0, none⟩)] w fun r w' => r = .returned (.iface 35 (.int .i64 e)) ∧ w' = w := by
  go_enter Tryz.func47, Tryz.ntmps47
  go_wp2
  go_ret
  exact ⟨rfl, rfl⟩
theorem mErrorE (v : Value) (w : World) : (Go.method 364 99 v "Error").run Tryz.prog w = .ok (167, v) w := by kernel_rfl
set_option maxRecDepth 100000 in
set_option maxHeartbeats 4000000 in
theorem evented_any (b k e : Nat) (w : World) (hL : Laid w) (hk : k < 1000) (he0 : 0 < e) (he : e < 1000) (h0 : w.cell? ⟨b, 0, none⟩ = some (.int .i64 k)) (h1 : w.cell? ⟨b, 1, none⟩ = some (.int .i64 e)) :
    Calls Tryz.prog 20 #[.iface 99 (.pointer (some ⟨b, 0, none⟩)), .int .i64 k, .int .i64 e] w fun r w' => r = .returned (.bool true) ∧ Gr w w' := by
  have n0 : ((e : Int) == 0) = false := beq_eq_false_iff_ne.2 (by omega)
  have hgA := ((Gr.refl w).alloc (.cells #[.int .i64 0, .int .i64 0] 101)).alloc (.cells #[.pointer (some ⟨w.heap.size, 0, none⟩)] 99)
  have hV : ((w.alloc (.cells #[.int .i64 0, .int .i64 0] 101)).alloc (.cells #[.pointer (some ⟨w.heap.size, 0, none⟩)] 99)).heap[w.heap.size + 1]? = some (.cells #[.pointer (some ⟨w.heap.size, 0, none⟩)] 99 (0, 0)) := heap_new_at (by simp) _
  have hAs := AsEvent.as_hit ⟨b, 0, none⟩ ⟨w.heap.size + 1, 0, none⟩ (.pointer (some ⟨w.heap.size, 0, none⟩)) ((w.alloc (.cells #[.int .i64 0, .int .i64 0] 101)).alloc (.cells #[.pointer (some ⟨w.heap.size, 0, none⟩)] 99)) (hL.grow hgA).et (blk_cell hV 0) (blk_free hV 0)
  have HL := Lib.hid hL
  have HV := Lib.hid hV
  have HG := Lib.hid hgA
  have HAs := Lib.hid hAs
  have H01 := Lib.hid (And.intro h0 h1)
  clear hL hV hgA hAs h0 h1
  go_enter Tryz.func20, Tryz.ntmps20
  go_wp2_with fail
  refine HAs.out.mono ?_
  rintro r w1 ⟨rfl, hw1⟩
  have hG1 : Gr w w1 := by
    rw [hw1]
    exact ((((HG.out.alloc _).alloc _).alloc _).alloc _).set (by show w.heap.size ≤ w.heap.size + 1; omega) _
  have hv1 : w1.heap[w.heap.size + 1]? = some (.cells #[.pointer (some ⟨b, 0, none⟩)] 99 (0, 0)) := by
    rw [hw1]
    exact (set_block (heap_old (heap_old (heap_old (heap_old HV.out _) _) _) _) _).trans rfl
  have k0 := hG1.cell H01.out.1
  have k1 := hG1.cell H01.out.2
  have v1 : w1.cell? ⟨w.heap.size + 1, 0, none⟩ = some (.pointer (some ⟨b, 0, none⟩)) := blk_cell hv1 0
  have HG1 := Lib.hid hG1
  have hta : ∀ (v : Value) (W : World), (Instr.typeAssert (.iface 35 v) 32 35 true).run Tryz.prog W = .ok (.tuple #[v, .bool true]) W := fun v W => by rfl
  have hmE := mErrorE
  have Hev := Lib.hid (evErr_any b k e w1 (HL.out.grow hG1) hk he k0 k1)
  obtain ⟨S, hS⟩ : ∃ S, ba (dg k) = S := ⟨_, rfl⟩
  have hSs : S.size ≤ 3 := by rw [← hS, ba_size]; exact dg_len k hk
  obtain ⟨E, hE⟩ : ∃ E, ba (dg e) = E := ⟨_, rfl⟩
  have hEs : E.size ≤ 3 := by rw [← hE, ba_size]; exact dg_len e he
  have HdS := fun W => Lib.hid (digits_any k W hk)
  have HdE := fun W => Lib.hid (digits_any e W he)
  rw [hS, hE] at Hev
  rw [hS] at HdS
  rw [hE] at HdE
  clear hw1 hG1 hv1 hS hE
  go_wp2_with fail
  refine (is_event b e e w1 k1).mono ?_
  rintro r w2 ⟨rfl, rfl⟩
  have hee : ((e : Int) == (e : Int)) = true := beq_self_eq_true _
  go_wp2_with fail
  refine (unwrap_any b e _ k1).mono ?_
  rintro r w3 ⟨rfl, rfl⟩
  go_wp2_with fail
  refine Hev.out.mono ?_
  rintro r w4 ⟨rfl, hg4⟩
  have HG4 := Lib.hid (HG1.out.trans hg4)
  clear hg4 k0 k1 v1 Hev HAs HV HG
  unfold evP midP
  go_wp2_with fail
  refine (HdS _).out.mono ?_
  rintro r w5 ⟨rfl, rfl⟩
  have z1 : ((⟨#[100, 97, 105, 108, 105, 101, 115, 58, 32, 101, 118, 101, 110, 116, 32]⟩ : ByteArray) ++ S).size ≤ 20 := by rw [ByteArray.size_append]; show 15 + S.size ≤ 20; omega
  have z2 : (((⟨#[100, 97, 105, 108, 105, 101, 115, 58, 32, 101, 118, 101, 110, 116, 32]⟩ : ByteArray) ++ S) ++ (⟨#[58, 32, 100, 97, 105, 108, 105, 101, 115, 58, 32, 101, 114, 114, 111, 114, 32]⟩ : ByteArray)).size ≤ 40 := by rw [ByteArray.size_append]; show _ + 17 ≤ 40; omega
  go_wp2_with fail
  refine (HdE _).out.mono ?_
  rintro r w6 ⟨rfl, rfl⟩
  go_wp2
  go_ret
  exact ⟨rfl, HG4.out⟩
end Go.Proofs.Cuts
