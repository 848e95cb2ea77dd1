/-
  (*reader).event: the line that puts an event to a list. Conditions: the listed variables lie in the world; the words are short; the list's slice is of the call's own.
-/
import Derived.Test.YtgimedhfhpiipaaGreatDoorReaderL
import Derived.Test.YtgimedhfhpiipaaGreatDoorWords
import Derived.Test.YtgimedhfhpiipaaGreatDoorCheck3
import Derived.Test.YtgimedhfhpiipaaGreatDoorIsAs
import Derived.Deep.DeepCutAuto
import Derived.Lib.SmallJoins
import Derived.Deep.RegionLaw
import Derived.Lib.OwnKind
import Derived.Deep.AppendLies
namespace Go.Proofs.Cuts
open Go.RowKit

def evsCells (l : List Ev) : List Value := l.flatMap evCells
/-- The list in block P; its events in a row of one's own, from block B on. -/
def CLAt (w : World) (B P : Nat) (cl : CL) : Prop :=
  ∃ v, w.heap[P]? = some (.cells #[.string cl.title, .int .i64 cl.rate, v] 30 (0, 0)) ∧ w.ownsRow B 51 5 v cl.evs.length (evsCells cl.evs)
/-- What event may change: the reader, the list, the rows of events from block B on. -/
structure Kv (R P B : Nat) (w w' : World) : Prop where
  os : w'.os = w.os
  tape : w'.tape = w.tape
  output : w'.output = w.output
  size : w.heap.size ≤ w'.heap.size
  block : ∀ k, k < w.heap.size → k ≠ R → k ≠ P → (B ≤ k → ∀ c fz, w.heap[k]? ≠ some (.cells c 51 fz)) → w'.heap[k]? = w.heap[k]?
theorem Kp.kv {R P B : Nat} {w w' : World} (h : Kp R w w') : Kv R P B w w' := ⟨h.os, h.tape, h.output, h.size, fun k hk hR _ _ => h.block k hk hR⟩

/-- What event answers. -/
def EventEnd (B0 B P : Nat) (cl : CL) (w : World) (e : Ending) : Except Err Ev → Prop
  | .ok ev => e = .returned .nilIface ∧ CLAt w B P { cl with evs := cl.evs ++ [ev] }
  | .error (a, n) => ∃ v, e = .returned v ∧ Fault 82 83 B0 w v a n

/-! the line's event, in parts -/
def fadePart (end_ : Int) (first : Wd) (l1 : List Wd) : Except Err (Int × List Wd) :=
  if first.s == fadeS then (match plainW end_ (fun s => isFade (bl s)) l1 with | .error e => .error e | .ok (n, r) => .ok (fadeVal (bl n.s), r)) else .ok (0, l1)
def notePart (end_ : Int) (l5 : List Wd) : Except Err (ByteArray × List Wd) :=
  match l5 with | [] => .ok (ba [], []) | _ :: _ => (match next end_ true l5 with | .error e => .error e | .ok (n, r) => .ok (n.s, r))
def eventCheck (cl : CL) (first out : Wd) (ev : Ev) : Except Err Ev :=
  match check { cl with evs := cl.evs ++ [ev] } with
  | none => .ok ev
  | some (_, e) => if e = 194 then .error (out.at_, 194) else .error (first.at_, 195)
def eventDone (cl : CL) (first out : Wd) (ev : Ev) (l6 : List Wd) : Except Err Ev :=
  match doneW l6 with
  | some e => .error e
  | none => eventCheck cl first out ev
def eventNote (end_ : Int) (cl : CL) (first out : Wd) (reel : ByteArray) (i o fade : Int) (l5 : List Wd) : Except Err Ev :=
  match notePart end_ l5 with
  | .error e => .error e
  | .ok (note, l6) => eventDone cl first out ⟨reel, i, o, fade, note⟩ l6
def eventTail (end_ : Int) (cl : CL) (first : Wd) (fade : Int) (l2 : List Wd) : Except Err Ev :=
  match plainW end_ (fun s => nameOk (bl s)) l2 with
  | .error e => .error e
  | .ok (name, l3) =>
    match timeW end_ cl.rate l3 with
    | .error e => .error e
    | .ok (i, _, l4) =>
      match timeW end_ cl.rate l4 with
      | .error e => .error e
      | .ok (o, out, l5) => eventNote end_ cl first out name.s i o fade l5
theorem eventLine_parts (end_ : Int) (cl : CL) (l : List Wd) (h : cl.evs.length ≠ 200) : eventLine end_ cl l =
    match plainW end_ (fun s => s == cutS || s == fadeS) l with
    | .error e => .error e
    | .ok (first, l1) =>
      match fadePart end_ first l1 with
      | .error e => .error e
      | .ok (fade, l2) => eventTail end_ cl first fade l2 := by
  rw [eventLine.eq_def, if_neg h]
  rfl

theorem isFade_atoi {l : List UInt8} (h : isFade l = true) : ∃ n, Lib.atoiAll l = .ok n ∧ fadeVal l = n := by
  unfold isFade at h
  cases ha : Lib.atoiAll l with
  | ok n => exact ⟨n, rfl, by unfold fadeVal; rw [ha]⟩
  | range => rw [ha] at h; cases h
  | _ => rw [ha] at h; cases h
/-- A store of cell i of an event's box that holds these. -/
theorem box_set {w : World} {b i : Nat} {cs cs' : Array Value} {u : Value} (h : w.heap[b]? = some (.cells cs 51 (0, 0))) (hc : cs.setIfInBounds i u = cs') : (w.setCell ⟨b, i, none⟩ u).heap[b]? = some (.cells cs' 51 (0, 0)) := by
  rw [set_block h u, hc]
theorem heap_set_far {w : World} {b i k : Nat} {u : Value} {o : Obj} (h : w.heap[k]? = some o) (hk : k ≠ b) : (w.setCell ⟨b, i, none⟩ u).heap[k]? = some o := by
  rw [Below.heap_setCell _ _ _ _ hk]; exact h
theorem set1_kp (w : World) (b i : Nat) (u : Value) : Kp b w (w.setCell ⟨b, i, none⟩ u) := (Kp.refl b w).set (.inr rfl) u

theorem own_kp {w w' : World} {R B n : Nat} {v : Value} {xs : List Value} (h : w.ownsRow B 51 5 v n xs) (g : Kp R w w') {cs : Array Value} {fz : Nat × Nat} (hR : w.heap[R]? = some (.cells cs 64 fz)) : w'.ownsRow B 51 5 v n xs := by
  obtain ⟨hl, h2⟩ := h
  rcases h2 with h0 | ⟨g', cap, cur, hv, hb, hh, r⟩
  · exact ⟨hl, .inl h0⟩
  · have hne : g' ≠ R := fun e => by rw [e, hR] at hh; cases hh
    exact ⟨hl, .inr ⟨g', cap, cur, hv, hb, g.heap hne hh, r⟩⟩
/-- A block that is no event row is kept by an append to the row. -/
theorem row_far {w w' : World} {B n : Nat} {v : Value} {xs : List Value} (h : w.ownsRow B 51 5 v n xs) (hg : w.grownBy w' v.ownBlock) {k T : Nat} {cs : Array Value} {fz : Nat × Nat} (hk : w.heap[k]? = some (.cells cs T fz)) (hT : T ≠ 51) : w'.heap[k]? = some (.cells cs T fz) := by
  rw [hg.block k (Array.getElem?_eq_some_iff.1 hk).1 ?_, hk]
  intro he
  obtain ⟨c, fz', hc⟩ := Lib.ownsRow_kind h k he.symm
  rw [hk] at hc
  simp only [Option.some.injEq, Obj.cells.injEq] at hc
  exact hT hc.2.1
theorem info51 : (Tryz.prog.info? 51).map (fun i => (i.zero, i.size, i.bytes)) = some (some (.agg #[.string ⟨#[]⟩, .int .i64 0, .int .i64 0, .int .i64 0, .string ⟨#[]⟩]), 5, 56) := by kernel_rfl

theorem cells5 {w : World} {b T : Nat} {x y z u s : Value} (h : w.heap[b]? = some (.cells #[x, y, z, u, s] T (0, 0))) :
    w.cell? ⟨b, 0, none⟩ = some x ∧ w.cell? ⟨b, 1, none⟩ = some y ∧ w.cell? ⟨b, 2, none⟩ = some z ∧ w.cell? ⟨b, 3, none⟩ = some u ∧ w.cell? ⟨b, 4, none⟩ = some s ∧ ∀ i, w.frozen? ⟨b, i, none⟩ = false :=
  ⟨by simp [World.cell?, h], by simp [World.cell?, h], by simp [World.cell?, h], by simp [World.cell?, h], by simp [World.cell?, h], fun i => by simp [World.frozen?, h]⟩

theorem event_full (P R S B : Nat) (end_ : Int) (cl : CL) (x : Wd) (l : List Wd) (w : World) (h : Rd w R S end_ (x :: l)) (hC : CLAt w B P cl) (h200 : cl.evs.length = 200) :
    Calls Tryz.prog 28 #[.pointer (some ⟨R, 0, none⟩), .pointer (some ⟨P, 0, none⟩)] w fun e w' => EventEnd w.heap.size B P cl w' e (eventLine end_ cl (x :: l)) ∧ Kv R P B w w' := by
  obtain ⟨v, hP, hown⟩ := hC
  obtain ⟨A, c, rfl⟩ : ∃ A c, v = .slice A cl.evs.length c := by
    rcases Joins.ownsRow_forms hown with ⟨rfl, h0⟩ | ⟨g, cap, rfl⟩
    · exact ⟨none, 0, by rw [h0]⟩
    · exact ⟨_, _, rfl⟩
  rw [h200] at hP
  obtain ⟨p0, p1, p2, pf⟩ := cells3 hP
  obtain ⟨A', c', hc, hR0, hR1, hW⟩ := h.cells
  obtain ⟨at_, s, tx, bad⟩ := x
  obtain ⟨b, o, rfl, hb, hcells⟩ : ∃ b o, A' = some ⟨b, o, none⟩ ∧ (b ≠ R ∧ b < S) ∧ ∀ k e, (⟨at_, s, tx, bad⟩ :: l : List Wd)[k]? = some e → WdAt w b o k e := by
    rcases hW with h0 | h1
    · cases h0
    · exact h1
  obtain ⟨q0, q1, q2, q3⟩ := hcells 0 _ rfl
  simp only [Nat.zero_mul, Nat.add_zero] at q0 q1 q2 q3
  have hT : eventLine end_ cl (⟨at_, s, tx, bad⟩ :: l) = .error (at_, 196) := by rw [eventLine, if_pos h200]
  rw [hT]
  obtain ⟨n, hn⟩ : ∃ n, l.length = n := ⟨_, rfl⟩
  rw [List.length_cons, hn] at hc hR0
  clear hT h hP hcells hW hown pf hn p0 p1 h200
  go_enter Tryz.func28, Tryz.ntmps28
  go_wp2_with fail
  refine (fault_any _ _ _).mono ?_
  rintro e w1 ⟨⟨v, rfl, hv⟩, hg⟩
  go_wp2
  go_ret
  exact ⟨⟨v, rfl, hv⟩, ((Kp.refl R w).gr hg).kv⟩

end Go.Proofs.Cuts
