/-
  cuts.frames, fades, isName, checkEvent, Check: what they return. Conditions: as each says.
-/
import Derived.Test.YtgimedhfhpiipaaGreatDoorTimecode
import Derived.Test.YtgimedhfhpiipaaGreatDoorName
import Derived.Test.YtgimedhfhpiipaaGreatDoorShelf
import Derived.Deep.RegionHeld3
namespace Go.Proofs.Cuts
open Go.RowKit

def evAgg (e : Ev) : Value := .agg #[.string e.reel, .int .i64 e.i, .int .i64 e.o, .int .i64 e.fade, .string e.note]
def evCells (e : Ev) : List Value := [.string e.reel, .int .i64 e.i, .int .i64 e.o, .int .i64 e.fade, .string e.note]

theorem frames_any (e : Ev) (w : World) :
    Calls Tryz.prog 46 #[.agg #[.string e.reel, .int .i64 e.i, .int .i64 e.o, .int .i64 e.fade, .string e.note]] w fun r w' => r = .returned (.int .i64 (wrap64 (e.o - e.i))) ∧ Gr w w' := by
  obtain ⟨reel, i, o, fade, note⟩ := e
  go_enter Tryz.func46, Tryz.ntmps46
  go_wp2
  go_ret
  exact ⟨rfl, (Gr.refl _).alloc _⟩

theorem frames_in (e : Ev) (w : World) (hi : 0 ≤ e.i ∧ e.i ≤ 10000000) (ho : 0 ≤ e.o ∧ e.o ≤ 10000000) :
    Calls Tryz.prog 46 #[.agg #[.string e.reel, .int .i64 e.i, .int .i64 e.o, .int .i64 e.fade, .string e.note]] w fun r w' => r = .returned (.int .i64 (e.o - e.i)) ∧ Gr w w' := by
  have hw : wrap64 (e.o - e.i) = e.o - e.i := IntWalk.wrap64_in _ (by omega)
  rw [← hw]
  exact frames_any e w

theorem fades_zero (v : Value) (e : Ev) (w : World) (h : e.fade = 0) :
    Calls Tryz.prog 83 #[v, .agg #[.string e.reel, .int .i64 e.i, .int .i64 e.o, .int .i64 e.fade, .string e.note]] w fun r w' => r = .returned (.bool true) ∧ Gr w w' := by
  obtain ⟨reel, i, o, fade, note⟩ := e
  obtain rfl : fade = 0 := h
  go_enter Tryz.func83, Tryz.ntmps83
  go_wp2
  go_ret
  exact ⟨rfl, (Gr.refl _).alloc _⟩

theorem fades_out (A : Option Addr) (n c : Nat) (e : Ev) (w : World) (h : e.fade < 0 ∨ 100 < e.fade) :
    Calls Tryz.prog 83 #[.slice A n c, .agg #[.string e.reel, .int .i64 e.i, .int .i64 e.o, .int .i64 e.fade, .string e.note]] w fun r w' => r = .returned (.bool false) ∧ Gr w w' := by
  obtain ⟨reel, i, o, fade, note⟩ := e
  have h0 : (fade == 0) = false := beq_eq_false_iff_ne.2 (by simp only at h; omega)
  by_cases hn : fade < 0
  · have hd : decide (fade < 0) = true := decide_eq_true hn
    clear h
    go_enter Tryz.func83, Tryz.ntmps83
    go_wp2
    go_quiet (fail)
    go_wp2
    go_ret
    exact ⟨rfl, ((Gr.refl _).alloc _).drewN _⟩
  · have hd : decide (fade < 0) = false := decide_eq_false hn
    have h1 : 100 < fade := by simp only at h; omega
    have hd1 : decide (100 < fade) = true := decide_eq_true h1
    clear h
    go_enter Tryz.func83, Tryz.ntmps83
    go_wp2
    go_quiet (fail)
    go_wp2
    go_ret
    exact ⟨rfl, ((Gr.refl _).alloc _).drewN _⟩
theorem fades_first (A : Option Addr) (c : Nat) (e : Ev) (w : World) (h : ¬ (e.fade < 0 ∨ 100 < e.fade)) (h0 : e.fade ≠ 0) :
    Calls Tryz.prog 83 #[.slice A 0 c, .agg #[.string e.reel, .int .i64 e.i, .int .i64 e.o, .int .i64 e.fade, .string e.note]] w fun r w' => r = .returned (.bool false) ∧ Gr w w' := by
  obtain ⟨reel, i, o, fade, note⟩ := e
  have h0 : (fade == 0) = false := beq_eq_false_iff_ne.2 h0
  have hd : decide (fade < 0) = false := decide_eq_false (by simp only at h; omega)
  have hd1 : decide (100 < fade) = false := decide_eq_false (by simp only at h; omega)
  clear h
  go_enter Tryz.func83, Tryz.ntmps83
  go_wp2
  go_quiet (fail)
  go_wp2
  go_ret
  exact ⟨rfl, ((Gr.refl _).alloc _).drewN _⟩

theorem fades_last (b o n c : Nat) (e l : Ev) (w : World) (h : ¬ (e.fade < 0 ∨ 100 < e.fade)) (h0 : e.fade ≠ 0) (hn : n ≤ 1000000)
    (hi : 0 ≤ e.i ∧ e.i ≤ 10000000) (ho : 0 ≤ e.o ∧ e.o ≤ 10000000) (hli : 0 ≤ l.i ∧ l.i ≤ 10000000) (hlo : 0 ≤ l.o ∧ l.o ≤ 10000000) (hlf : 0 ≤ l.fade ∧ l.fade ≤ 100)
    (c0 : w.cell? ⟨b, o + n * 5, none⟩ = some (.string l.reel)) (c1 : w.cell? ⟨b, o + n * 5 + 1, none⟩ = some (.int .i64 l.i)) (c2 : w.cell? ⟨b, o + n * 5 + 2, none⟩ = some (.int .i64 l.o)) (c3 : w.cell? ⟨b, o + n * 5 + 3, none⟩ = some (.int .i64 l.fade)) (c4 : w.cell? ⟨b, o + n * 5 + 4, none⟩ = some (.string l.note)) :
    Calls Tryz.prog 83 #[.slice (some ⟨b, o, none⟩) (n + 1) c, .agg #[.string e.reel, .int .i64 e.i, .int .i64 e.o, .int .i64 e.fade, .string e.note]] w
      fun r w' => r = .returned (.bool (decide (e.fade ≤ e.o - e.i) && decide (e.fade ≤ l.o - l.i - l.fade))) ∧ Gr w w' := by
  obtain ⟨reel, i, o', fade, note⟩ := e
  simp only at h h0 hi ho
  have e0 : (fade == 0) = false := beq_eq_false_iff_ne.2 h0
  have hd : decide (fade < 0) = false := decide_eq_false (by omega)
  have hd1 : decide (100 < fade) = false := decide_eq_false (by omega)
  have hl0 : ((n : Int) + 1 == 0) = false := beq_eq_false_iff_ne.2 (by omega)
  go_enter Tryz.func83, Tryz.ntmps83
  go_wp2
  go_region_held3 (fun w' => Gr w w' ∧ w'.cell? ⟨w.heap.size, 0, none⟩ = some (.string reel) ∧ w'.cell? ⟨w.heap.size, 1, none⟩ = some (.int .i64 i) ∧ w'.cell? ⟨w.heap.size, 2, none⟩ = some (.int .i64 o') ∧ w'.cell? ⟨w.heap.size, 3, none⟩ = some (.int .i64 fade) ∧ w'.cell? ⟨w.heap.size, 4, none⟩ = some (.string note)) (first | exact ⟨((Gr.refl _).alloc _).drew, by simp, by simp, by simp, by simp, by simp⟩ | exact ⟨Gr.trans ((Gr.refl _).alloc _).drew hg, hg.cell (by simp), hg.cell (by simp), hg.cell (by simp), hg.cell (by simp), hg.cell (by simp)⟩)
    (first | (go_at_call 46; refine (frames_in ⟨_, _, _, _, _⟩ _ hi ho).mono ?_; rintro e w' ⟨rfl, hg⟩))
  rename_i hS
  obtain ⟨hG, -, -, -, b3, -⟩ := hS
  clear hg
  have q0 := hG.cell c0
  have q1 := hG.cell c1
  have q2 := hG.cell c2
  have q3 := hG.cell c3
  have q4 := hG.cell c4
  clear c0 c1 c2 c3 c4
  by_cases hf : fade ≤ o' - i
  · have d1 : decide (o' - i < fade) = false := decide_eq_false (by omega)
    go_wp2
    have b3' := old_alloc b3 (.cells #[.string l.reel, .int .i64 l.i, .int .i64 l.o, .int .i64 l.fade, .string l.note] 51)
    go_region_held3 (fun w2 => Gr w w2 ∧ w2.cell? ⟨w.heap.size, 3, none⟩ = some (.int .i64 fade) ∧ w2.cell? ⟨w'.heap.size, 3, none⟩ = some (.int .i64 l.fade) ∧ w2.cell? ⟨w'.heap.size, 0, none⟩ = some (.string l.reel) ∧ w2.cell? ⟨w'.heap.size, 1, none⟩ = some (.int .i64 l.i) ∧ w2.cell? ⟨w'.heap.size, 2, none⟩ = some (.int .i64 l.o) ∧ w2.cell? ⟨w'.heap.size, 4, none⟩ = some (.string l.note)) (first | exact ⟨(hG.alloc _).drew, b3', by simp, by simp, by simp, by simp, by simp⟩ | exact ⟨Gr.trans (hG.alloc _).drew hg, hg.cell b3', hg.cell (by simp), hg.cell (by simp), hg.cell (by simp), hg.cell (by simp), hg.cell (by simp)⟩)
      (first | (go_at_call 46; refine (frames_in ⟨_, _, _, _, _⟩ _ hli hlo).mono ?_; rintro e w' ⟨rfl, hg⟩))
    rename_i hS
    obtain ⟨hG2, -⟩ := hS
    have ew : IntKind.i64.wrap (l.o - l.i - l.fade) = l.o - l.i - l.fade := IntWalk.i64_in _ (by omega)
    have Hw := Lib.hid ew
    clear ew hg
    go_wp2
    go_ret
    exact ⟨by rw [Hw.out]; simp [hf], hG2⟩
  · have d1 : decide (o' - i < fade) = true := decide_eq_true (by omega)
    go_wp2
    go_ret
    have ef : decide (fade ≤ o' - i) = false := decide_eq_false (by omega)
    exact ⟨by rw [ef]; rfl, hG⟩

/-- Event k of a slice whose first cell is ⟨b, o⟩. -/
def EvAt (w : World) (b o k : Nat) (e : Ev) : Prop :=
  w.cell? ⟨b, o + k * 5, none⟩ = some (.string e.reel) ∧ w.cell? ⟨b, o + k * 5 + 1, none⟩ = some (.int .i64 e.i) ∧ w.cell? ⟨b, o + k * 5 + 2, none⟩ = some (.int .i64 e.o) ∧
    w.cell? ⟨b, o + k * 5 + 3, none⟩ = some (.int .i64 e.fade) ∧ w.cell? ⟨b, o + k * 5 + 4, none⟩ = some (.string e.note)
/-- The slice at A reads as these events (first of all that lie there). -/
def EvsAt (w : World) (A : Option Addr) (l : List Ev) : Prop := l = [] ∨ ∃ b o, A = some ⟨b, o, none⟩ ∧ ∀ k e, l[k]? = some e → EvAt w b o k e
theorem EvAt.grow {w w' : World} {b o k : Nat} {e : Ev} (h : EvAt w b o k e) (g : Gr w w') : EvAt w' b o k e := ⟨g.cell h.1, g.cell h.2.1, g.cell h.2.2.1, g.cell h.2.2.2.1, g.cell h.2.2.2.2⟩
theorem EvsAt.grow {w w' : World} {A : Option Addr} {l : List Ev} (h : EvsAt w A l) (g : Gr w w') : EvsAt w' A l :=
  h.elim .inl fun ⟨b, o, e, hc⟩ => .inr ⟨b, o, e, fun k x hx => (hc k x hx).grow g⟩
theorem EvsAt.take {w : World} {A : Option Addr} {l : List Ev} (h : EvsAt w A l) (n : Nat) : EvsAt w A (l.take n) := by
  rcases h with rfl | ⟨b, o, e, hc⟩
  · exact .inl (by simp)
  · refine .inr ⟨b, o, e, fun k x hx => hc k x ?_⟩
    rw [List.getElem?_take] at hx
    split at hx
    · exact hx
    · cases hx
/-- In and Out lie in a day (of any rate). -/
def Timed (e : Ev) : Prop := (0 ≤ e.i ∧ e.i ≤ 10000000) ∧ (0 ≤ e.o ∧ e.o ≤ 10000000)

theorem fades_any (A : Option Addr) (c : Nat) (ahead : List Ev) (e : Ev) (w : World) (hS : EvsAt w A ahead) (hn : ahead.length ≤ 1000) (hA : ∀ l ∈ ahead, Timed l ∧ (0 ≤ l.fade ∧ l.fade ≤ 100)) (he : Timed e) :
    Calls Tryz.prog 83 #[.slice A ahead.length c, .agg #[.string e.reel, .int .i64 e.i, .int .i64 e.o, .int .i64 e.fade, .string e.note]] w fun r w' => r = .returned (.bool (fadesB ahead e)) ∧ Gr w w' := by
  by_cases h0 : e.fade = 0
  · have : fadesB ahead e = true := by unfold fadesB; rw [if_pos h0]
    rw [this]
    exact fades_zero _ e w h0
  by_cases h1 : e.fade < 0 ∨ 100 < e.fade
  · have : fadesB ahead e = false := by unfold fadesB; rw [if_neg h0, if_pos h1]
    rw [this]
    exact fades_out A _ c e w h1
  rcases List.eq_nil_or_concat ahead with rfl | ⟨pre, l, rfl⟩
  · have : fadesB [] e = false := by unfold fadesB; rw [if_neg h0, if_neg h1]; rfl
    rw [this]
    exact fades_first A c e w h1 h0
  · have e1 : fadesB (pre.concat l) e = (decide (e.fade ≤ e.o - e.i) && decide (e.fade ≤ l.o - l.i - l.fade)) := by
      unfold fadesB; rw [if_neg h0, if_neg h1]; simp
    rw [e1]
    rcases hS with h | ⟨b, o, rfl, hc⟩
    · simp at h
    · have hl := hA l (by simp)
      have hx := hc pre.length l (by simp)
      have hlen : (pre.concat l).length = pre.length + 1 := by simp
      rw [hlen] at hn ⊢
      exact fades_last b o pre.length c e l w h1 h0 (by omega) he.1 he.2 hl.1.1 hl.1.2 hl.2 hx.1 hx.2.1 hx.2.2.1 hx.2.2.2.1 hx.2.2.2.2

theorem checkEvent_name (A : Option Addr) (c : Nat) (ahead : List Ev) (e : Ev) (d : Int) (w : World) (hr : e.reel.size ≤ maxLen) (h : nameOk (bl e.reel) = false) :
    Calls Tryz.prog 40 #[.slice A ahead.length c, .agg #[.string e.reel, .int .i64 e.i, .int .i64 e.o, .int .i64 e.fade, .string e.note], .int .i64 d] w fun r w' => r = .returned (.int .i64 193) ∧ Gr w w' := by
  obtain ⟨reel, i, o, fade, note⟩ := e
  have Hn := Lib.hid h
  clear h
  go_enter Tryz.func40, Tryz.ntmps40
  go_wp2_with fail
  refine (isName_any reel _ hr).mono ?_
  rintro e w' ⟨rfl, rfl⟩
  rw [Hn.out]
  go_wp2
  go_ret
  exact ⟨rfl, by repeat (first | assumption | exact Gr.refl _ | apply Gr.alloc)⟩
theorem checkEvent_time (A : Option Addr) (c : Nat) (ahead : List Ev) (e : Ev) (d : Int) (w : World) (hr : e.reel.size ≤ maxLen) (h : nameOk (bl e.reel) = true) (ht : e.i < 0 ∨ e.o ≤ e.i ∨ d ≤ e.o) :
    Calls Tryz.prog 40 #[.slice A ahead.length c, .agg #[.string e.reel, .int .i64 e.i, .int .i64 e.o, .int .i64 e.fade, .string e.note], .int .i64 d] w fun r w' => r = .returned (.int .i64 194) ∧ Gr w w' := by
  obtain ⟨reel, i, o, fade, note⟩ := e
  simp only at ht
  have Hn := Lib.hid h
  clear h
  have hcase : i < 0 ∨ (0 ≤ i ∧ o ≤ i) ∨ (0 ≤ i ∧ i < o ∧ d ≤ o) := by omega
  clear ht
  rcases hcase with h | h | h
  all_goals
    go_enter Tryz.func40, Tryz.ntmps40
    go_wp2_with fail
    refine (isName_any reel _ hr).mono ?_
    rintro e w' ⟨rfl, rfl⟩
    rw [Hn.out]
    go_wp2
    go_ret
    exact ⟨rfl, by repeat (first | assumption | exact Gr.refl _ | apply Gr.alloc)⟩
end Go.Proofs.Cuts
