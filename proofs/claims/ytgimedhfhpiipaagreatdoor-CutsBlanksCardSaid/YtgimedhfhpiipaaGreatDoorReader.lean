/-
  A line's reader: what its block holds, what else is kept; (*reader).next, done. Conditions: none but that the reader and its words lie in the world.
-/
import Derived.Test.YtgimedhfhpiipaaGreatDoorNumber3
namespace Go.Proofs.Cuts
open Go.RowKit

/-- Every block but R is as it was. -/
structure Kp (R : Nat) (w w' : World) : Prop where
  os : w'.os = w.os
  tape : w'.tape = w.tape
  output : w'.output = w.output
  size : w.heap.size ≤ w'.heap.size
  block : ∀ k, k < w.heap.size → k ≠ R → w'.heap[k]? = w.heap[k]?
theorem Kp.refl (R : Nat) (w : World) : Kp R w w := ⟨rfl, rfl, rfl, Nat.le_refl _, fun _ _ _ => rfl⟩
theorem Kp.trans {R : Nat} {a b c : World} (h : Kp R a b) (k : Kp R b c) : Kp R a c :=
  ⟨k.os.trans h.os, k.tape.trans h.tape, k.output.trans h.output, Nat.le_trans h.size k.size, fun i hi hn => (k.block i (Nat.lt_of_lt_of_le hi h.size) hn).trans (h.block i hi hn)⟩
theorem Kp.gr {R : Nat} {a b c : World} (h : Kp R a b) (g : Gr b c) : Kp R a c :=
  h.trans ⟨g.below.os, g.below.tape, g.below.output, g.size, fun k hk _ => g.below.block k hk⟩
theorem Kp.alloc {R : Nat} {a b : World} (h : Kp R a b) (o : Obj) : Kp R a (b.alloc o) := h.gr ((Gr.refl _).alloc o)
theorem Kp.drew {R : Nat} {a b : World} (h : Kp R a b) : Kp R a b.drew := h.gr (Gr.refl _).drew
theorem Kp.drewN {R : Nat} {a b : World} (h : Kp R a b) (n : Nat) : Kp R a (b.drewN n) := h.gr ((Gr.refl _).drewN n)
theorem Kp.set {R : Nat} {a b : World} (h : Kp R a b) {p : Addr} (hp : a.heap.size ≤ p.block ∨ p.block = R) (u : Value) : Kp R a (b.setCell p u) :=
  ⟨h.os, h.tape, h.output, Nat.le_trans h.size (by simp [World.setCell]), fun k hk hn => (Below.heap_setCell _ _ _ _ (by omega)).trans (h.block k hk hn)⟩
theorem Kp.below {R : Nat} {w w' : World} (h : Kp R w w') (hR : R ≤ w.heap.size) : Below R w w' := ⟨h.os, h.tape, h.output, h.size, fun k hk => h.block k (by omega) (by omega)⟩
theorem Kp.cell {R : Nat} {w w' : World} (h : Kp R w w') {p : Addr} {v : Value} (hp : p.block ≠ R) (hc : w.cell? p = some v) : w'.cell? p = some v := by
  have hlt := World.block_lt_of_cell? w p hc
  have := h.block p.block hlt hp
  unfold World.cell? at hc ⊢
  rw [this]
  exact hc
theorem Kp.heap {R : Nat} {w w' : World} (h : Kp R w w') {k : Nat} {o : Obj} (hk : k ≠ R) (ho : w.heap[k]? = some o) : w'.heap[k]? = some o := (h.block k (Array.getElem?_eq_some_iff.1 ho).1 hk).trans ho
theorem Laid.kp {R : Nat} {w w' : World} (h : Laid w) (k : Kp R w w') (h20 : 20 ≤ R) (hR : R ≤ w.heap.size) : Laid w' := h.below (k.below hR) h20
theorem Fault.kp {T U B R : Nat} {w w' : World} {v : Value} {a e : Int} (h : Fault T U B w v a e) (g : Kp R w w') (hB : R < B) : Fault T U B w' v a e := by
  obtain ⟨b, hv, hb, hc⟩ := h
  exact ⟨b, hv, hb, g.heap (by omega) hc⟩

/-- Word k of a slice whose first cell is ⟨b, o⟩. -/
def WdAt (w : World) (b o k : Nat) (e : Wd) : Prop :=
  w.cell? ⟨b, o + k * 4, none⟩ = some (.int .i64 e.at_) ∧ w.cell? ⟨b, o + k * 4 + 1, none⟩ = some (.string e.s) ∧ w.cell? ⟨b, o + k * 4 + 2, none⟩ = some (.bool e.text) ∧ w.cell? ⟨b, o + k * 4 + 3, none⟩ = some (.bool e.bad)
/-- The slice at A reads as these words, all of a block that is not R. -/
def WdsAt (w : World) (R S : Nat) (A : Option Addr) (l : List Wd) : Prop := l = [] ∨ ∃ b o, A = some ⟨b, o, none⟩ ∧ (b ≠ R ∧ b < S) ∧ ∀ k e, l[k]? = some e → WdAt w b o k e
theorem WdsAt.kp {w w' : World} {R S : Nat} {A : Option Addr} {l : List Wd} (h : WdsAt w R S A l) (g : Kp R w w') : WdsAt w' R S A l :=
  h.elim .inl fun ⟨b, o, e, hb, hc⟩ => .inr ⟨b, o, e, hb, fun k x hx => by
    obtain ⟨h0, h1, h2, h3⟩ := hc k x hx
    exact ⟨g.cell hb.1 h0, g.cell hb.1 h1, g.cell hb.1 h2, g.cell hb.1 h3⟩⟩
/-- The reader in block R: its words, the line's end. -/
def Rd (w : World) (R S : Nat) (end_ : Int) (l : List Wd) : Prop :=
  ∃ A c, l.length ≤ c ∧ w.heap[R]? = some (.cells #[.slice A l.length c, .int .i64 end_] 64 (0, 0)) ∧ WdsAt w R S A l
theorem Rd.gr {w w' : World} {R S : Nat} {end_ : Int} {l : List Wd} (h : Rd w R S end_ l) (g : Gr w w') : Rd w' R S end_ l := by
  obtain ⟨A, c, hc, hb, hw⟩ := h
  exact ⟨A, c, hc, (g.below.block R (Array.getElem?_eq_some_iff.1 hb).1).trans hb, hw.kp ((Kp.refl R w).gr g)⟩
theorem Rd.lt {w : World} {R S : Nat} {end_ : Int} {l : List Wd} (h : Rd w R S end_ l) : R < w.heap.size := by
  obtain ⟨A, c, hc, hb, hw⟩ := h
  exact (Array.getElem?_eq_some_iff.1 hb).1
theorem Rd.cells {w : World} {R S : Nat} {end_ : Int} {l : List Wd} (h : Rd w R S end_ l) : ∃ A c, l.length ≤ c ∧ w.cell? ⟨R, 0, none⟩ = some (.slice A l.length c) ∧ w.cell? ⟨R, 1, none⟩ = some (.int .i64 end_) ∧ WdsAt w R S A l := by
  obtain ⟨A, c, hc, hb, hw⟩ := h
  exact ⟨A, c, hc, by simp [World.cell?, hb], by simp [World.cell?, hb], hw⟩

def wdAgg (x : Wd) : Value := .agg #[.int .i64 x.at_, .string x.s, .bool x.text, .bool x.bad]
/-- What next answers. -/
def NextEnd (B : Nat) (R S : Nat) (end_ : Int) (w : World) (e : Ending) : Except Err (Wd × List Wd) → Prop
  | .ok (x, r) => e = .returned (.tuple #[wdAgg x, .nilIface]) ∧ Rd w R S end_ r
  | .error (a, n) => ∃ x v, e = .returned (.tuple #[wdAgg x, v]) ∧ Fault 82 83 B w v a n

/-- How next ends on a fault: the result's cell holds no word, before the store as after it. -/
theorem next_err (R : Nat) (w w1 wr : World) (hk : Kp R w wr) (hg : Gr wr w1) (hz : wr.heap[w.heap.size]? = some (.cells #[.int .i64 0, .string ⟨#[]⟩, .bool false, .bool false] 114 (0, 0)))
    {v : Value} {a n : Int} (hv : Fault 82 83 wr.heap.size w1 v a n) :
    (w1.cell? ⟨w.heap.size, 0, none⟩ = some (.int .i64 0) ∧ w1.cell? ⟨w.heap.size, 1, none⟩ = some (.string ⟨#[]⟩) ∧ w1.cell? ⟨w.heap.size, 2, none⟩ = some (.bool false) ∧ w1.cell? ⟨w.heap.size, 3, none⟩ = some (.bool false)) ∧
      (∀ i, w1.frozen? ⟨w.heap.size, i, none⟩ = false) ∧
      Hid (∀ u0 u1 u2 u3, Kp R w ((((w1.setCell ⟨w.heap.size, 0, none⟩ u0).setCell ⟨w.heap.size, 1, none⟩ u1).setCell ⟨w.heap.size, 2, none⟩ u2).setCell ⟨w.heap.size, 3, none⟩ u3) ∧
        Fault 82 83 w.heap.size ((((w1.setCell ⟨w.heap.size, 0, none⟩ u0).setCell ⟨w.heap.size, 1, none⟩ u1).setCell ⟨w.heap.size, 2, none⟩ u2).setCell ⟨w.heap.size, 3, none⟩ u3) v a n) := by
  have hlt := (Array.getElem?_eq_some_iff.1 hz).1
  have h1 := (hg.below.block _ hlt).trans hz
  refine ⟨⟨by simp [World.cell?, h1], by simp [World.cell?, h1], by simp [World.cell?, h1], by simp [World.cell?, h1]⟩, fun i => by simp [World.frozen?, h1], fun u0 u1 u2 u3 => ⟨?_, ?_⟩⟩
  · exact ((((hk.gr hg).set (.inl (Nat.le_refl _)) _).set (.inl (Nat.le_refl _)) _).set (.inl (Nat.le_refl _)) _).set (.inl (Nat.le_refl _)) _
  · exact (hv.kp (R := w.heap.size) (((((Kp.refl w.heap.size w1).set (p := ⟨w.heap.size, 0, none⟩) (.inr rfl) u0).set (p := ⟨w.heap.size, 1, none⟩) (.inr rfl) u1).set (p := ⟨w.heap.size, 2, none⟩) (.inr rfl) u2).set (p := ⟨w.heap.size, 3, none⟩) (.inr rfl) u3) hlt).mono (Nat.le_of_lt hlt)

theorem next_rd {R S b o n c : Nat} {end_ : Int} {x : Wd} {r : List Wd} {w : World} (hR : w.heap[R]? = some (.cells #[.slice (some ⟨b, o, none⟩) (n + 1) c, .int .i64 end_] 64 (0, 0))) (hn : r.length = n) (hb : b ≠ R ∧ b < S)
    (hcells : ∀ k e, (x :: r)[k]? = some e → WdAt w b o k e) (A : Option Addr) (c' : Nat) (hA : r = [] ∨ A = some ⟨b, o + 4, none⟩) (hc : n ≤ c') (o1 o2 : Obj) :
    Rd (((w.setCell ⟨R, 0, none⟩ (.slice A n c')).alloc o1).alloc o2) R S end_ r := by
  refine Rd.gr ?_ (((Gr.refl (w.setCell ⟨R, 0, none⟩ (.slice A n c'))).alloc o1).alloc o2)
  refine ⟨A, c', by rw [hn]; exact hc, by rw [hn]; exact (set_block hR _).trans rfl, ?_⟩
  rcases hA with h0 | rfl
  · exact .inl h0
  · refine .inr ⟨b, o + 4, rfl, hb, fun k e hk => ?_⟩
    obtain ⟨h0, h1, h2, h3⟩ := hcells (k + 1) e (by simpa using hk)
    have hk : Kp R w (w.setCell ⟨R, 0, none⟩ (.slice (some ⟨b, o + 4, none⟩) n c')) := (Kp.refl R w).set (.inr rfl) _
    rw [show o + (k + 1) * 4 = o + 4 + k * 4 by omega] at h0 h1 h2 h3
    exact ⟨hk.cell hb.1 h0, hk.cell hb.1 h1, hk.cell hb.1 h2, hk.cell hb.1 h3⟩

theorem next_no (R S : Nat) (end_ : Int) (text : Bool) (w : World) (h : Rd w R S end_ []) :
    Calls Tryz.prog 62 #[.pointer (some ⟨R, 0, none⟩), .bool text] w fun e w' => NextEnd w.heap.size R S end_ w' e (.error (end_, 193)) ∧ Kp R w w' := by
  have hlt := h.lt
  obtain ⟨A, c, hc, hR0, hR1, hW⟩ := h.cells
  have p0 := old_alloc hR0 (.cells #[.int .i64 0, .string ⟨#[]⟩, .bool false, .bool false] 114)
  have p1 := old_alloc hR1 (.cells #[.int .i64 0, .string ⟨#[]⟩, .bool false, .bool false] 114)
  have hB := (Gr.refl w).alloc (.cells #[.int .i64 0, .string ⟨#[]⟩, .bool false, .bool false] 114)
  have Hh := Lib.hid h
  clear h
  simp only [List.length_nil] at hR0 hc p0
  go_enter Tryz.func62, Tryz.ntmps62
  go_wp2_with fail
  refine (fault_any _ _ _).mono ?_
  rintro e w1 ⟨⟨v, rfl, hv⟩, hg⟩
  obtain ⟨⟨z0, z1, z2, z3⟩, hz, HF⟩ := next_err R w w1 _ ((Kp.refl R w).gr hB) hg (heap_new _ _) hv
  clear hv
  go_wp2
  exact bodyPost_ret (v := .tuple #[wdAgg ⟨0, ⟨#[]⟩, false, false⟩, v]) (by simp [results, Tryz.results62, wdAgg, go_sem, z0, z1, z2, z3]) rfl ⟨⟨⟨0, ⟨#[]⟩, false, false⟩, v, rfl, (HF.out _ _ _ _).2⟩, (HF.out _ _ _ _).1⟩

theorem next_bad (R S : Nat) (end_ : Int) (at_ : Int) (s : ByteArray) (tx text : Bool) (r : List Wd) (w : World) (h : Rd w R S end_ (⟨at_, s, tx, true⟩ :: r)) :
    Calls Tryz.prog 62 #[.pointer (some ⟨R, 0, none⟩), .bool text] w fun e w' => NextEnd w.heap.size R S end_ w' e (.error (at_, 193)) ∧ Kp R w w' := by
  have hlt := h.lt
  obtain ⟨A, c, hc, hR0, hR1, hW⟩ := h.cells
  have hS : w.heap.size + 1 ≠ R := by omega
  have hS' : w.heap.size ≠ R := by omega
  have hB := (Gr.refl w).alloc (.cells #[.int .i64 0, .string ⟨#[]⟩, .bool false, .bool false] 114)
  obtain ⟨b, o, rfl, hb, hcells⟩ : ∃ b o, A = some ⟨b, o, none⟩ ∧ (b ≠ R ∧ b < S) ∧ ∀ k e, (⟨at_, s, tx, true⟩ :: r : List Wd)[k]? = some e → WdAt w b o k e := by
    rcases hW with h0 | h1
    · cases h0
    · exact h1
  obtain ⟨q0, q1, q2, q3⟩ := hcells 0 _ rfl
  have Hcells := Lib.hid hcells
  have HW := Lib.hid hW
  have Hh := Lib.hid h
  clear h hcells hW
  obtain ⟨n, hn⟩ : ∃ n, r.length = n := ⟨_, rfl⟩
  rw [List.length_cons, hn] at hc hR0
  simp only [Nat.zero_mul, Nat.add_zero] at q0 q1 q2 q3
  have p0 := old_alloc hR0 (.cells #[.int .i64 0, .string ⟨#[]⟩, .bool false, .bool false] 114)
  have s0 := old_alloc q0 (.cells #[.int .i64 0, .string ⟨#[]⟩, .bool false, .bool false] 114)
  have s1 := old_alloc q1 (.cells #[.int .i64 0, .string ⟨#[]⟩, .bool false, .bool false] 114)
  have s2 := old_alloc q2 (.cells #[.int .i64 0, .string ⟨#[]⟩, .bool false, .bool false] 114)
  have s3 := old_alloc q3 (.cells #[.int .i64 0, .string ⟨#[]⟩, .bool false, .bool false] 114)
  have u0 := old_alloc p0 (.cells #[.int .i64 at_, .string s, .bool tx, .bool true] 114)
  have hlen : ((n : Int) + 1 == 0) = false := beq_eq_false_iff_ne.2 (by omega)
  have hkA : Kp R w ((w.alloc (.cells #[.int .i64 0, .string ⟨#[]⟩, .bool false, .bool false] 114)).alloc (.cells #[.int .i64 at_, .string s, .bool tx, .bool true] 114)) := ((Kp.refl R w).alloc _).alloc _
  have hkS : ∀ u o1 o2, Kp R w (((w.setCell ⟨R, 0, none⟩ u).alloc o1).alloc o2) := fun u _ _ => (((Kp.refl R w).set (.inr rfl) u).alloc _).alloc _
  have HkA := Lib.hid hkA
  have HkS := Lib.hid hkS
  have Hn := Lib.hid hn
  clear q0 q1 q2 q3 hR0 hR1 hkA hkS hn
  go_enter Tryz.func62, Tryz.ntmps62
  go_wp2_with fail
  refine (fault_any _ _ _).mono ?_
  rintro e w1 ⟨⟨v, rfl, hv⟩, hg⟩
  obtain ⟨⟨z0, z1, z2, z3⟩, hz, HF⟩ := next_err R w w1 _ HkA.out hg (heap_old (heap_new _ _) _) hv
  clear hv
  go_wp2
  exact bodyPost_ret (v := .tuple #[wdAgg ⟨0, ⟨#[]⟩, false, false⟩, v]) (by simp [results, Tryz.results62, wdAgg, go_sem, z0, z1, z2, z3]) rfl ⟨⟨⟨0, ⟨#[]⟩, false, false⟩, v, rfl, (HF.out _ _ _ _).2⟩, (HF.out _ _ _ _).1⟩

theorem next_kind0 (R S : Nat) (end_ : Int) (at_ : Int) (s : ByteArray) (r : List Wd) (w : World) (h : Rd w R S end_ (⟨at_, s, false, false⟩ :: r)) :
    Calls Tryz.prog 62 #[.pointer (some ⟨R, 0, none⟩), .bool true] w fun e w' => NextEnd w.heap.size R S end_ w' e (.error (at_, 193)) ∧ Kp R w w' := by
  have hlt := h.lt
  obtain ⟨A, c, hc, hR0, hR1, hW⟩ := h.cells
  have hS : w.heap.size + 1 ≠ R := by omega
  have hS' : w.heap.size ≠ R := by omega
  have hB := (Gr.refl w).alloc (.cells #[.int .i64 0, .string ⟨#[]⟩, .bool false, .bool false] 114)
  obtain ⟨b, o, rfl, hb, hcells⟩ : ∃ b o, A = some ⟨b, o, none⟩ ∧ (b ≠ R ∧ b < S) ∧ ∀ k e, (⟨at_, s, false, false⟩ :: r : List Wd)[k]? = some e → WdAt w b o k e := by
    rcases hW with h0 | h1
    · cases h0
    · exact h1
  obtain ⟨q0, q1, q2, q3⟩ := hcells 0 _ rfl
  have Hcells := Lib.hid hcells
  have HW := Lib.hid hW
  have Hh := Lib.hid h
  clear h hcells hW
  obtain ⟨n, hn⟩ : ∃ n, r.length = n := ⟨_, rfl⟩
  rw [List.length_cons, hn] at hc hR0
  simp only [Nat.zero_mul, Nat.add_zero] at q0 q1 q2 q3
  have p0 := old_alloc hR0 (.cells #[.int .i64 0, .string ⟨#[]⟩, .bool false, .bool false] 114)
  have s0 := old_alloc q0 (.cells #[.int .i64 0, .string ⟨#[]⟩, .bool false, .bool false] 114)
  have s1 := old_alloc q1 (.cells #[.int .i64 0, .string ⟨#[]⟩, .bool false, .bool false] 114)
  have s2 := old_alloc q2 (.cells #[.int .i64 0, .string ⟨#[]⟩, .bool false, .bool false] 114)
  have s3 := old_alloc q3 (.cells #[.int .i64 0, .string ⟨#[]⟩, .bool false, .bool false] 114)
  have u0 := old_alloc p0 (.cells #[.int .i64 at_, .string s, .bool false, .bool false] 114)
  have hlen : ((n : Int) + 1 == 0) = false := beq_eq_false_iff_ne.2 (by omega)
  have hkA : Kp R w ((w.alloc (.cells #[.int .i64 0, .string ⟨#[]⟩, .bool false, .bool false] 114)).alloc (.cells #[.int .i64 at_, .string s, .bool false, .bool false] 114)) := ((Kp.refl R w).alloc _).alloc _
  have hkS : ∀ u o1 o2, Kp R w (((w.setCell ⟨R, 0, none⟩ u).alloc o1).alloc o2) := fun u _ _ => (((Kp.refl R w).set (.inr rfl) u).alloc _).alloc _
  have HkA := Lib.hid hkA
  have HkS := Lib.hid hkS
  have Hn := Lib.hid hn
  clear q0 q1 q2 q3 hR0 hR1 hkA hkS hn
  go_enter Tryz.func62, Tryz.ntmps62
  go_wp2_with fail
  refine (fault_any _ _ _).mono ?_
  rintro e w1 ⟨⟨v, rfl, hv⟩, hg⟩
  obtain ⟨⟨z0, z1, z2, z3⟩, hz, HF⟩ := next_err R w w1 _ HkA.out hg (heap_old (heap_new _ _) _) hv
  clear hv
  go_wp2
  exact bodyPost_ret (v := .tuple #[wdAgg ⟨0, ⟨#[]⟩, false, false⟩, v]) (by simp [results, Tryz.results62, wdAgg, go_sem, z0, z1, z2, z3]) rfl ⟨⟨⟨0, ⟨#[]⟩, false, false⟩, v, rfl, (HF.out _ _ _ _).2⟩, (HF.out _ _ _ _).1⟩

theorem next_kind1 (R S : Nat) (end_ : Int) (at_ : Int) (s : ByteArray) (r : List Wd) (w : World) (h : Rd w R S end_ (⟨at_, s, true, false⟩ :: r)) :
    Calls Tryz.prog 62 #[.pointer (some ⟨R, 0, none⟩), .bool false] w fun e w' => NextEnd w.heap.size R S end_ w' e (.error (at_, 193)) ∧ Kp R w w' := by
  have hlt := h.lt
  obtain ⟨A, c, hc, hR0, hR1, hW⟩ := h.cells
  have hS : w.heap.size + 1 ≠ R := by omega
  have hS' : w.heap.size ≠ R := by omega
  have hB := (Gr.refl w).alloc (.cells #[.int .i64 0, .string ⟨#[]⟩, .bool false, .bool false] 114)
  obtain ⟨b, o, rfl, hb, hcells⟩ : ∃ b o, A = some ⟨b, o, none⟩ ∧ (b ≠ R ∧ b < S) ∧ ∀ k e, (⟨at_, s, true, false⟩ :: r : List Wd)[k]? = some e → WdAt w b o k e := by
    rcases hW with h0 | h1
    · cases h0
    · exact h1
  obtain ⟨q0, q1, q2, q3⟩ := hcells 0 _ rfl
  have Hcells := Lib.hid hcells
  have HW := Lib.hid hW
  have Hh := Lib.hid h
  clear h hcells hW
  obtain ⟨n, hn⟩ : ∃ n, r.length = n := ⟨_, rfl⟩
  rw [List.length_cons, hn] at hc hR0
  simp only [Nat.zero_mul, Nat.add_zero] at q0 q1 q2 q3
  have p0 := old_alloc hR0 (.cells #[.int .i64 0, .string ⟨#[]⟩, .bool false, .bool false] 114)
  have s0 := old_alloc q0 (.cells #[.int .i64 0, .string ⟨#[]⟩, .bool false, .bool false] 114)
  have s1 := old_alloc q1 (.cells #[.int .i64 0, .string ⟨#[]⟩, .bool false, .bool false] 114)
  have s2 := old_alloc q2 (.cells #[.int .i64 0, .string ⟨#[]⟩, .bool false, .bool false] 114)
  have s3 := old_alloc q3 (.cells #[.int .i64 0, .string ⟨#[]⟩, .bool false, .bool false] 114)
  have u0 := old_alloc p0 (.cells #[.int .i64 at_, .string s, .bool true, .bool false] 114)
  have hlen : ((n : Int) + 1 == 0) = false := beq_eq_false_iff_ne.2 (by omega)
  have hkA : Kp R w ((w.alloc (.cells #[.int .i64 0, .string ⟨#[]⟩, .bool false, .bool false] 114)).alloc (.cells #[.int .i64 at_, .string s, .bool true, .bool false] 114)) := ((Kp.refl R w).alloc _).alloc _
  have hkS : ∀ u o1 o2, Kp R w (((w.setCell ⟨R, 0, none⟩ u).alloc o1).alloc o2) := fun u _ _ => (((Kp.refl R w).set (.inr rfl) u).alloc _).alloc _
  have HkA := Lib.hid hkA
  have HkS := Lib.hid hkS
  have Hn := Lib.hid hn
  clear q0 q1 q2 q3 hR0 hR1 hkA hkS hn
  go_enter Tryz.func62, Tryz.ntmps62
  go_wp2_with fail
  refine (fault_any _ _ _).mono ?_
  rintro e w1 ⟨⟨v, rfl, hv⟩, hg⟩
  obtain ⟨⟨z0, z1, z2, z3⟩, hz, HF⟩ := next_err R w w1 _ HkA.out hg (heap_old (heap_new _ _) _) hv
  clear hv
  go_wp2
  exact bodyPost_ret (v := .tuple #[wdAgg ⟨0, ⟨#[]⟩, false, false⟩, v]) (by simp [results, Tryz.results62, wdAgg, go_sem, z0, z1, z2, z3]) rfl ⟨⟨⟨0, ⟨#[]⟩, false, false⟩, v, rfl, (HF.out _ _ _ _).2⟩, (HF.out _ _ _ _).1⟩

theorem next_long (R S : Nat) (end_ : Int) (at_ : Int) (s : ByteArray) (hl : 100 < s.size) (r : List Wd) (w : World) (h : Rd w R S end_ (⟨at_, s, true, false⟩ :: r)) :
    Calls Tryz.prog 62 #[.pointer (some ⟨R, 0, none⟩), .bool true] w fun e w' => NextEnd w.heap.size R S end_ w' e (.error (at_, 191)) ∧ Kp R w w' := by
  have hlt := h.lt
  obtain ⟨A, c, hc, hRR, hW⟩ := h
  have hR0 : w.cell? ⟨R, 0, none⟩ = some (.slice A (r.length + 1) c) := by simp [World.cell?, hRR]
  have hR1 : w.cell? ⟨R, 1, none⟩ = some (.int .i64 end_) := by simp [World.cell?, hRR]
  have hfr : ∀ i, w.frozen? ⟨R, i, none⟩ = false := fun i => by simp [World.frozen?, hRR]
  have hS : w.heap.size + 1 ≠ R := by omega
  have hS' : w.heap.size ≠ R := by omega
  have hB := (Gr.refl w).alloc (.cells #[.int .i64 0, .string ⟨#[]⟩, .bool false, .bool false] 114)
  obtain ⟨b, o, rfl, hb, hcells⟩ : ∃ b o, A = some ⟨b, o, none⟩ ∧ (b ≠ R ∧ b < S) ∧ ∀ k e, (⟨at_, s, true, false⟩ :: r : List Wd)[k]? = some e → WdAt w b o k e := by
    rcases hW with h0 | h1
    · cases h0
    · exact h1
  obtain ⟨q0, q1, q2, q3⟩ := hcells 0 _ rfl
  have Hcells := Lib.hid hcells
  have HW := Lib.hid hW
  clear hcells hW
  obtain ⟨n, hn⟩ : ∃ n, r.length = n := ⟨_, rfl⟩
  rw [List.length_cons, hn] at hc hRR
  rw [hn] at hR0
  simp only [Nat.zero_mul, Nat.add_zero] at q0 q1 q2 q3
  have p0 := old_alloc hR0 (.cells #[.int .i64 0, .string ⟨#[]⟩, .bool false, .bool false] 114)
  have s0 := old_alloc q0 (.cells #[.int .i64 0, .string ⟨#[]⟩, .bool false, .bool false] 114)
  have s1 := old_alloc q1 (.cells #[.int .i64 0, .string ⟨#[]⟩, .bool false, .bool false] 114)
  have s2 := old_alloc q2 (.cells #[.int .i64 0, .string ⟨#[]⟩, .bool false, .bool false] 114)
  have s3 := old_alloc q3 (.cells #[.int .i64 0, .string ⟨#[]⟩, .bool false, .bool false] 114)
  have u0 := old_alloc p0 (.cells #[.int .i64 at_, .string s, .bool true, .bool false] 114)
  have fr : ∀ o1 o2, ((w.alloc o1).alloc o2).frozen? ⟨R, 0, none⟩ = false := fun o1 o2 => by rw [World.frozen?_alloc_old _ _ _ (by simp; omega), World.frozen?_alloc_old _ _ _ (by simp; omega)]; exact hfr 0
  clear hfr
  have hlen : ((n : Int) + 1 == 0) = false := beq_eq_false_iff_ne.2 (by omega)
  have hkA : Kp R w ((w.alloc (.cells #[.int .i64 0, .string ⟨#[]⟩, .bool false, .bool false] 114)).alloc (.cells #[.int .i64 at_, .string s, .bool true, .bool false] 114)) := ((Kp.refl R w).alloc _).alloc _
  have hkS : ∀ u o1 o2, Kp R w (((w.setCell ⟨R, 0, none⟩ u).alloc o1).alloc o2) := fun u _ _ => (((Kp.refl R w).set (.inr rfl) u).alloc _).alloc _
  have HkA := Lib.hid hkA
  have HkS := Lib.hid hkS
  have Hn := Lib.hid hn
  have HR := Lib.hid hRR
  have Hb := Lib.hid hb
  clear q0 q1 q2 q3 hR0 hR1 hkA hkS hn hRR hb
  have dl : decide (100 < (s.size : Int)) = true := decide_eq_true (by omega)
  go_enter Tryz.func62, Tryz.ntmps62
  by_cases hc1 : c = 1
  · subst hc1
    obtain rfl : n = 0 := by omega
    go_wp2_with fail
    refine (fault_any _ _ _).mono ?_
    rintro e w1 ⟨⟨v, rfl, hv⟩, hg⟩
    obtain ⟨⟨z0, z1, z2, z3⟩, hz, HF⟩ := next_err R w w1 _ (HkS.out _ _ _) hg (heap_old (heap_new_at (by simp) _) _) hv
    clear hv
    go_wp2
    exact bodyPost_ret (v := .tuple #[wdAgg ⟨0, ⟨#[]⟩, false, false⟩, v]) (by simp [results, Tryz.results62, wdAgg, go_sem, z0, z1, z2, z3]) rfl ⟨⟨⟨0, ⟨#[]⟩, false, false⟩, v, rfl, (HF.out _ _ _ _).2⟩, (HF.out _ _ _ _).1⟩
  · have e1 : (c = 1) = False := eq_false hc1
    go_wp2_with fail
    refine (fault_any _ _ _).mono ?_
    rintro e w1 ⟨⟨v, rfl, hv⟩, hg⟩
    obtain ⟨⟨z0, z1, z2, z3⟩, hz, HF⟩ := next_err R w w1 _ (HkS.out _ _ _) hg (heap_old (heap_new_at (by simp) _) _) hv
    clear hv
    go_wp2
    exact bodyPost_ret (v := .tuple #[wdAgg ⟨0, ⟨#[]⟩, false, false⟩, v]) (by simp [results, Tryz.results62, wdAgg, go_sem, z0, z1, z2, z3]) rfl ⟨⟨⟨0, ⟨#[]⟩, false, false⟩, v, rfl, (HF.out _ _ _ _).2⟩, (HF.out _ _ _ _).1⟩

theorem next_word (R S : Nat) (end_ : Int) (at_ : Int) (s : ByteArray) (r : List Wd) (w : World) (h : Rd w R S end_ (⟨at_, s, false, false⟩ :: r)) :
    Calls Tryz.prog 62 #[.pointer (some ⟨R, 0, none⟩), .bool false] w fun e w' => NextEnd w.heap.size R S end_ w' e (.ok (⟨at_, s, false, false⟩, r)) ∧ Kp R w w' := by
  have hlt := h.lt
  obtain ⟨A, c, hc, hRR, hW⟩ := h
  have hR0 : w.cell? ⟨R, 0, none⟩ = some (.slice A (r.length + 1) c) := by simp [World.cell?, hRR]
  have hR1 : w.cell? ⟨R, 1, none⟩ = some (.int .i64 end_) := by simp [World.cell?, hRR]
  have hfr : ∀ i, w.frozen? ⟨R, i, none⟩ = false := fun i => by simp [World.frozen?, hRR]
  have hS : w.heap.size + 1 ≠ R := by omega
  have hS' : w.heap.size ≠ R := by omega
  have hB := (Gr.refl w).alloc (.cells #[.int .i64 0, .string ⟨#[]⟩, .bool false, .bool false] 114)
  obtain ⟨b, o, rfl, hb, hcells⟩ : ∃ b o, A = some ⟨b, o, none⟩ ∧ (b ≠ R ∧ b < S) ∧ ∀ k e, (⟨at_, s, false, false⟩ :: r : List Wd)[k]? = some e → WdAt w b o k e := by
    rcases hW with h0 | h1
    · cases h0
    · exact h1
  obtain ⟨q0, q1, q2, q3⟩ := hcells 0 _ rfl
  have Hcells := Lib.hid hcells
  have HW := Lib.hid hW
  clear hcells hW
  obtain ⟨n, hn⟩ : ∃ n, r.length = n := ⟨_, rfl⟩
  rw [List.length_cons, hn] at hc hRR
  rw [hn] at hR0
  simp only [Nat.zero_mul, Nat.add_zero] at q0 q1 q2 q3
  have p0 := old_alloc hR0 (.cells #[.int .i64 0, .string ⟨#[]⟩, .bool false, .bool false] 114)
  have s0 := old_alloc q0 (.cells #[.int .i64 0, .string ⟨#[]⟩, .bool false, .bool false] 114)
  have s1 := old_alloc q1 (.cells #[.int .i64 0, .string ⟨#[]⟩, .bool false, .bool false] 114)
  have s2 := old_alloc q2 (.cells #[.int .i64 0, .string ⟨#[]⟩, .bool false, .bool false] 114)
  have s3 := old_alloc q3 (.cells #[.int .i64 0, .string ⟨#[]⟩, .bool false, .bool false] 114)
  have u0 := old_alloc p0 (.cells #[.int .i64 at_, .string s, .bool false, .bool false] 114)
  have fr : ∀ o1 o2, ((w.alloc o1).alloc o2).frozen? ⟨R, 0, none⟩ = false := fun o1 o2 => by rw [World.frozen?_alloc_old _ _ _ (by simp; omega), World.frozen?_alloc_old _ _ _ (by simp; omega)]; exact hfr 0
  clear hfr
  have hlen : ((n : Int) + 1 == 0) = false := beq_eq_false_iff_ne.2 (by omega)
  have hkA : Kp R w ((w.alloc (.cells #[.int .i64 0, .string ⟨#[]⟩, .bool false, .bool false] 114)).alloc (.cells #[.int .i64 at_, .string s, .bool false, .bool false] 114)) := ((Kp.refl R w).alloc _).alloc _
  have hkS : ∀ u o1 o2, Kp R w (((w.setCell ⟨R, 0, none⟩ u).alloc o1).alloc o2) := fun u _ _ => (((Kp.refl R w).set (.inr rfl) u).alloc _).alloc _
  have HkA := Lib.hid hkA
  have HkS := Lib.hid hkS
  have Hn := Lib.hid hn
  have HR := Lib.hid hRR
  have Hb := Lib.hid hb
  clear q0 q1 q2 q3 hR0 hR1 hkA hkS hn hRR hb
  have Hrd := Lib.hid (next_rd (end_ := end_) HR.out Hn.out Hb.out Hcells.out)
  go_enter Tryz.func62, Tryz.ntmps62
  by_cases hc1 : c = 1
  · subst hc1
    obtain rfl : n = 0 := by omega
    have hr0 : r = [] := List.length_eq_zero_iff.1 Hn.out
    have Hr0 := Lib.hid hr0
    clear hr0
    go_wp2
    exact bodyPost_ret (v := .tuple #[wdAgg ⟨at_, s, false, false⟩, .nilIface]) (by simp [results, Tryz.results62, wdAgg, go_sem]) rfl ⟨⟨rfl, Hrd.out _ _ (.inl Hr0.out) (by omega) _ _⟩, HkS.out _ _ _⟩
  · have e1 : (c = 1) = False := eq_false hc1
    go_wp2
    exact bodyPost_ret (v := .tuple #[wdAgg ⟨at_, s, false, false⟩, .nilIface]) (by simp [results, Tryz.results62, wdAgg, go_sem]) rfl ⟨⟨rfl, Hrd.out _ _ (.inr rfl) (by omega) _ _⟩, HkS.out _ _ _⟩

theorem next_text (R S : Nat) (end_ : Int) (at_ : Int) (s : ByteArray) (hl : ¬ 100 < s.size) (r : List Wd) (w : World) (h : Rd w R S end_ (⟨at_, s, true, false⟩ :: r)) :
    Calls Tryz.prog 62 #[.pointer (some ⟨R, 0, none⟩), .bool true] w fun e w' => NextEnd w.heap.size R S end_ w' e (.ok (⟨at_, s, true, false⟩, r)) ∧ Kp R w w' := by
  have hlt := h.lt
  obtain ⟨A, c, hc, hRR, hW⟩ := h
  have hR0 : w.cell? ⟨R, 0, none⟩ = some (.slice A (r.length + 1) c) := by simp [World.cell?, hRR]
  have hR1 : w.cell? ⟨R, 1, none⟩ = some (.int .i64 end_) := by simp [World.cell?, hRR]
  have hfr : ∀ i, w.frozen? ⟨R, i, none⟩ = false := fun i => by simp [World.frozen?, hRR]
  have hS : w.heap.size + 1 ≠ R := by omega
  have hS' : w.heap.size ≠ R := by omega
  have hB := (Gr.refl w).alloc (.cells #[.int .i64 0, .string ⟨#[]⟩, .bool false, .bool false] 114)
  obtain ⟨b, o, rfl, hb, hcells⟩ : ∃ b o, A = some ⟨b, o, none⟩ ∧ (b ≠ R ∧ b < S) ∧ ∀ k e, (⟨at_, s, true, false⟩ :: r : List Wd)[k]? = some e → WdAt w b o k e := by
    rcases hW with h0 | h1
    · cases h0
    · exact h1
  obtain ⟨q0, q1, q2, q3⟩ := hcells 0 _ rfl
  have Hcells := Lib.hid hcells
  have HW := Lib.hid hW
  clear hcells hW
  obtain ⟨n, hn⟩ : ∃ n, r.length = n := ⟨_, rfl⟩
  rw [List.length_cons, hn] at hc hRR
  rw [hn] at hR0
  simp only [Nat.zero_mul, Nat.add_zero] at q0 q1 q2 q3
  have p0 := old_alloc hR0 (.cells #[.int .i64 0, .string ⟨#[]⟩, .bool false, .bool false] 114)
  have s0 := old_alloc q0 (.cells #[.int .i64 0, .string ⟨#[]⟩, .bool false, .bool false] 114)
  have s1 := old_alloc q1 (.cells #[.int .i64 0, .string ⟨#[]⟩, .bool false, .bool false] 114)
  have s2 := old_alloc q2 (.cells #[.int .i64 0, .string ⟨#[]⟩, .bool false, .bool false] 114)
  have s3 := old_alloc q3 (.cells #[.int .i64 0, .string ⟨#[]⟩, .bool false, .bool false] 114)
  have u0 := old_alloc p0 (.cells #[.int .i64 at_, .string s, .bool true, .bool false] 114)
  have fr : ∀ o1 o2, ((w.alloc o1).alloc o2).frozen? ⟨R, 0, none⟩ = false := fun o1 o2 => by rw [World.frozen?_alloc_old _ _ _ (by simp; omega), World.frozen?_alloc_old _ _ _ (by simp; omega)]; exact hfr 0
  clear hfr
  have hlen : ((n : Int) + 1 == 0) = false := beq_eq_false_iff_ne.2 (by omega)
  have hkA : Kp R w ((w.alloc (.cells #[.int .i64 0, .string ⟨#[]⟩, .bool false, .bool false] 114)).alloc (.cells #[.int .i64 at_, .string s, .bool true, .bool false] 114)) := ((Kp.refl R w).alloc _).alloc _
  have hkS : ∀ u o1 o2, Kp R w (((w.setCell ⟨R, 0, none⟩ u).alloc o1).alloc o2) := fun u _ _ => (((Kp.refl R w).set (.inr rfl) u).alloc _).alloc _
  have HkA := Lib.hid hkA
  have HkS := Lib.hid hkS
  have Hn := Lib.hid hn
  have HR := Lib.hid hRR
  have Hb := Lib.hid hb
  clear q0 q1 q2 q3 hR0 hR1 hkA hkS hn hRR hb
  have dl : decide (100 < (s.size : Int)) = false := decide_eq_false (by omega)
  have Hrd := Lib.hid (next_rd (end_ := end_) HR.out Hn.out Hb.out Hcells.out)
  go_enter Tryz.func62, Tryz.ntmps62
  by_cases hc1 : c = 1
  · subst hc1
    obtain rfl : n = 0 := by omega
    have hr0 : r = [] := List.length_eq_zero_iff.1 Hn.out
    have Hr0 := Lib.hid hr0
    clear hr0
    go_wp2
    exact bodyPost_ret (v := .tuple #[wdAgg ⟨at_, s, true, false⟩, .nilIface]) (by simp [results, Tryz.results62, wdAgg, go_sem]) rfl ⟨⟨rfl, Hrd.out _ _ (.inl Hr0.out) (by omega) _ _⟩, HkS.out _ _ _⟩
  · have e1 : (c = 1) = False := eq_false hc1
    go_wp2
    exact bodyPost_ret (v := .tuple #[wdAgg ⟨at_, s, true, false⟩, .nilIface]) (by simp [results, Tryz.results62, wdAgg, go_sem]) rfl ⟨⟨rfl, Hrd.out _ _ (.inr rfl) (by omega) _ _⟩, HkS.out _ _ _⟩

theorem next_any (R S : Nat) (end_ : Int) (text : Bool) (l : List Wd) (w : World) (h : Rd w R S end_ l) :
    Calls Tryz.prog 62 #[.pointer (some ⟨R, 0, none⟩), .bool text] w fun e w' => NextEnd w.heap.size R S end_ w' e (next end_ text l) ∧ Kp R w w' := by
  match l, h with
  | [], h => exact next_no R S end_ text w h
  | ⟨at_, s, tx, true⟩ :: r, h =>
    have := next_bad R S end_ at_ s tx text r w h
    simpa [next] using this
  | ⟨at_, s, false, false⟩ :: r, h =>
    cases text with
    | true => simpa [next] using next_kind0 R S end_ at_ s r w h
    | false => simpa [next] using next_word R S end_ at_ s r w h
  | ⟨at_, s, true, false⟩ :: r, h =>
    cases text with
    | false => simpa [next] using next_kind1 R S end_ at_ s r w h
    | true =>
      by_cases hl : 100 < s.size
      · simpa [next, hl] using next_long R S end_ at_ s hl r w h
      · simpa [next, hl] using next_text R S end_ at_ s hl r w h

/-- The four cells of a word's box, stored. -/
def set4 (w : World) (b : Nat) (u0 u1 u2 u3 : Value) : World := (((w.setCell ⟨b, 0, none⟩ u0).setCell ⟨b, 1, none⟩ u1).setCell ⟨b, 2, none⟩ u2).setCell ⟨b, 3, none⟩ u3
theorem set4_kp (w : World) (b : Nat) (u0 u1 u2 u3 : Value) : Kp b w (set4 w b u0 u1 u2 u3) := ((((Kp.refl b w).set (p := ⟨b, 0, none⟩) (.inr rfl) u0).set (p := ⟨b, 1, none⟩) (.inr rfl) u1).set (p := ⟨b, 2, none⟩) (.inr rfl) u2).set (p := ⟨b, 3, none⟩) (.inr rfl) u3
/-- What a change of a block of one's own keeps. -/
theorem Kp.own {R b : Nat} {w a c : World} (h : Kp R w a) (g : Kp b a c) (hb : w.heap.size ≤ b) : Kp R w c :=
  ⟨g.os.trans h.os, g.tape.trans h.tape, g.output.trans h.output, Nat.le_trans h.size g.size, fun k hk hn => (g.block k (Nat.lt_of_lt_of_le hk h.size) (by omega)).trans (h.block k hk hn)⟩
theorem Rd.own {w c : World} {R S b : Nat} {end_ : Int} {l : List Wd} (h : Rd w R S end_ l) (g : Kp b w c) (hb : b ≠ R) (hS : S ≤ b) : Rd c R S end_ l := by
  obtain ⟨A, cap, hc, hR, hw⟩ := h
  refine ⟨A, cap, hc, g.heap (Ne.symm hb) hR, hw.elim .inl fun ⟨b', o, e, hb', hcells⟩ => .inr ⟨b', o, e, hb', fun k x hx => ?_⟩⟩
  obtain ⟨h0, h1, h2, h3⟩ := hcells k x hx
  have hne : b' ≠ b := by omega
  exact ⟨g.cell hne h0, g.cell hne h1, g.cell hne h2, g.cell hne h3⟩

/-- What done answers. -/
def DoneEnd (B : Nat) (w : World) (e : Ending) : Option Err → Prop
  | none => e = .returned .nilIface
  | some (a, n) => ∃ v, e = .returned v ∧ Fault 82 83 B w v a n
theorem done_any (R S : Nat) (end_ : Int) (l : List Wd) (w : World) (h : Rd w R S end_ l) :
    Calls Tryz.prog 63 #[.pointer (some ⟨R, 0, none⟩)] w fun e w' => DoneEnd w.heap.size w' e (doneW l) ∧ Gr w w' := by
  obtain ⟨A, c, hc, hR0, hR1, hW⟩ := h.cells
  clear h
  rcases l with _ | ⟨⟨at_, s, tx, bad⟩, r⟩
  · simp only [List.length_nil] at hc hR0
    clear hR1 hW
    go_enter Tryz.func63, Tryz.ntmps63
    go_wp2
    go_ret
    exact ⟨rfl, Gr.refl _⟩
  · obtain ⟨b, o, rfl, hb, hcells⟩ : ∃ b o, A = some ⟨b, o, none⟩ ∧ (b ≠ R ∧ b < S) ∧ ∀ k e, (⟨at_, s, tx, bad⟩ :: r : List Wd)[k]? = some e → WdAt w b o k e := by
      rcases hW with h0 | h1
      · cases h0
      · exact h1
    obtain ⟨q0, q1, q2, q3⟩ := hcells 0 _ rfl
    simp only [Nat.zero_mul, Nat.add_zero] at q0 q1 q2 q3
    clear hcells hW
    obtain ⟨n, hn⟩ : ∃ n, r.length = n := ⟨_, rfl⟩
    rw [List.length_cons, hn] at hc hR0
    clear hn
    have hlen : decide ((n : Int) + 1 > 0) = true := decide_eq_true (by omega)
    have hlen' : decide (0 < (n : Int) + 1) = true := decide_eq_true (by omega)
    go_enter Tryz.func63, Tryz.ntmps63
    go_wp2_with fail
    refine (fault_any _ _ _).mono ?_
    rintro e w1 ⟨⟨v, rfl, hv⟩, hg⟩
    go_wp2
    go_ret
    exact ⟨⟨v, rfl, hv⟩, hg⟩
end Go.Proofs.Cuts
