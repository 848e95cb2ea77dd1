/-
  cuts.Length: what it answers. Conditions: the listed variables lie in the world; the list's events can be read.
-/
import Derived.Test.YtgimedhfhpiipaaGreatDoorCheck3
import Derived.Test.YtgimedhfhpiipaaGreatDoorPParse
import Derived.Test.YtgimedhfhpiipaaGreatDoorReaderL
namespace Go.Proofs.Cuts
open Go.RowKit

/-- What Length answers. -/
def LengthEnd (B : Nat) (w : World) (l : CL) (r : Ending) : Option (Int × Int) → Prop
  | none => r = .returned (.tuple #[.int .i64 (lenSum l.evs), .nilIface])
  | some (k, e) => ∃ v, r = .returned (.tuple #[.int .i64 0, v]) ∧ Fault 99 101 B w v k e

theorem lenSum_append : ∀ (a b : List Ev), lenSum (a ++ b) = lenSum a + lenSum b
  | [], b => by simp [lenSum]
  | e :: a, b => by rw [List.cons_append, lenSum, lenSum_append a b, lenSum]; omega
theorem lenSum_range : ∀ (l : List Ev), (∀ e ∈ l, Timed e ∧ 0 ≤ e.fade ∧ e.fade ≤ 100) → -20000000 * (l.length : Int) ≤ lenSum l ∧ lenSum l ≤ 20000000 * (l.length : Int)
  | [], _ => by simp [lenSum]
  | e :: r, h => by
    have h1 := h e (by simp)
    have h2 := lenSum_range r fun x hx => h x (by simp [hx])
    obtain ⟨⟨⟨a, b⟩, c, d⟩, f, g⟩ := h1
    rw [lenSum, List.length_cons]
    omega
/-- The events of a list that may be lie in a day. -/
theorem may_timed {l : CL} (hm : May l) : ∀ e ∈ l.evs, Timed e ∧ 0 ≤ e.fade ∧ e.fade ≤ 100 := by
  intro e he
  obtain ⟨a, b, hab⟩ := List.append_of_mem he
  have : May { l with evs := (a ++ [e]) ++ b } := by
    have e2 : { l with evs := (a ++ [e]) ++ b } = l := by rw [List.append_assoc]; simp only [List.cons_append, List.nil_append]; rw [← hab]
    rw [e2]; exact hm
  have h := this.front.last
  have hf := fadesB_range h.fades
  have hd := day_range l.rate
  have h1 := h.i0
  have h2 := h.io
  have h3 : e.o < day l.rate := h.od
  exact ⟨⟨⟨by omega, by omega⟩, by omega, by omega⟩, hf⟩

theorem length_bad (l : CL) (A : Option Addr) (c : Nat) (w : World) (k e : Int) (hck : check l = some (k, e)) (hL : Laid w) (hc : l.evs.length ≤ c) (hS : EvsAt w A l.evs) (hsz : ∀ e ∈ l.evs, e.reel.size ≤ maxLen ∧ e.note.size ≤ maxLen) :
    Calls Tryz.prog 18 #[.agg #[.string l.title, .int .i64 l.rate, .slice A l.evs.length c]] w fun r w' => LengthEnd w.heap.size w' l r (check l) ∧ Gr w w' := by
  have hg0 := (Gr.refl w).alloc (.cells #[.string l.title, .int .i64 l.rate, .slice A l.evs.length c] 30)
  have hchk := check_any l A c _ (hL.grow hg0) hc (hS.grow hg0) hsz
  rw [hck] at hchk ⊢
  have Hc := Lib.hid hchk
  have Hg := Lib.hid hg0
  clear hchk hg0 hck hL hc hS hsz
  obtain ⟨title, rate, evs⟩ := l
  obtain ⟨n, hn⟩ : ∃ n, evs.length = n := ⟨_, rfl⟩
  simp only [hn] at Hc Hg ⊢
  clear hn
  go_enter Tryz.func18, Tryz.ntmps18
  go_wp2_with fail
  refine Hc.out.mono ?_
  rintro e' w1 ⟨⟨v, rfl, hv⟩, hg⟩
  obtain ⟨b, rfl, hb, hh⟩ := hv
  have HF := Lib.hid (show Fault 99 101 w.heap.size w1 (.iface 99 (.pointer (some ⟨b, 0, none⟩))) k e from ⟨b, rfl, by simp at hb; omega, hh⟩)
  have HG := Lib.hid (Hg.out.trans hg)
  clear hb hh hg
  go_wp2
  go_ret2
  exact ⟨⟨_, rfl, HF.out⟩, HG.out⟩

set_option maxRecDepth 100000 in
set_option maxHeartbeats 4000000 in
theorem length_good (l : CL) (A : Option Addr) (c : Nat) (w : World) (hck : check l = none) (hL : Laid w) (hc : l.evs.length ≤ c) (hS : EvsAt w A l.evs) (hsz : ∀ e ∈ l.evs, e.reel.size ≤ maxLen ∧ e.note.size ≤ maxLen) :
    Calls Tryz.prog 18 #[.agg #[.string l.title, .int .i64 l.rate, .slice A l.evs.length c]] w fun r w' => LengthEnd w.heap.size w' l r (check l) ∧ Gr w w' := by
  have hg0 := (Gr.refl w).alloc (.cells #[.string l.title, .int .i64 l.rate, .slice A l.evs.length c] 30)
  have hchk := check_any l A c _ (hL.grow hg0) hc (hS.grow hg0) hsz
  have hm := (may_iff l).1 hck
  have hT := may_timed hm
  have hmany := hm.many
  rw [hck] at hchk ⊢
  have Hc := Lib.hid hchk
  have HT := Lib.hid hT
  have HS := Lib.hid hS
  clear hchk hck hL hS hsz hm hT
  obtain ⟨title, rate, evs⟩ := l
  obtain ⟨n, hn⟩ : ∃ n, evs.length = n := ⟨_, rfl⟩
  simp only [hn] at Hc hg0 hc hmany HT HS ⊢
  show Calls Tryz.prog 18 _ w fun r w' => r = .returned (.tuple #[.int .i64 (lenSum evs), .nilIface]) ∧ Gr w w'
  have hb0 := heap_new w (.cells #[.string title, .int .i64 rate, .slice A n c] 30)
  have Hn := Lib.hid hn
  clear hn
  go_enter Tryz.func18, Tryz.ntmps18
  go_wp2_with fail
  refine Hc.out.mono ?_
  rintro e' w1 ⟨⟨v, rfl, hv⟩, hg⟩
  obtain rfl : v = .nilIface := hv
  have hb1 := (hg.below.block _ (Array.getElem?_eq_some_iff.1 hb0).1).trans hb0
  obtain ⟨c0, c1, c2, cf⟩ := cells3 hb1
  have hG := hg0.trans hg
  clear hb0 hb1 hg hg0
  go_wp2
  go_loopg [5, 16] n (fun g v u wx => Gr w wx ∧ ∃ k : Nat, k + g = n ∧ v = .int .i64 (lenSum (evs.take k)) ∧ u = .int .i64 k)
  case atStart => exact ⟨hG, 0, by omega, rfl, rfl⟩
  case round =>
    obtain ⟨hGx, k, hk, rfl, rfl⟩ := hrel
    clear c0 c1 c2 cf hG
    by_cases hlt : k < n
    · obtain ⟨ev, hev⟩ : ∃ ev, evs[k]? = some ev := by
        rw [List.getElem?_eq_getElem (by rw [Hn.out]; exact hlt)]; exact ⟨_, rfl⟩
      obtain ⟨b, o, rfl, hcells⟩ : ∃ b o, A = some ⟨b, o, none⟩ ∧ ∀ k e, evs[k]? = some e → EvAt w b o k e := by
        rcases HS.out with h0 | h1
        · rw [h0] at hev; cases hev
        · exact h1
      obtain ⟨q0, q1, q2, q3, q4⟩ := (hcells k ev hev).grow hGx
      have ht := HT.out ev (List.mem_of_getElem? hev)
      have hsum : lenSum (evs.take (k + 1)) = lenSum (evs.take k) + (ev.o - ev.i - ev.fade) := by
        rw [List.take_add_one, hev]
        simp [lenSum_append, lenSum]
      have hr := lenSum_range (evs.take k) (fun e he => HT.out e (List.mem_of_mem_take he))
      have hkl : (evs.take k).length = k := by rw [List.length_take, Hn.out]; omega
      rw [hkl] at hr
      have Hsum := Lib.hid hsum
      clear hsum hkl hcells hev
      obtain ⟨S, hS⟩ : ∃ S, lenSum (evs.take k) = S := ⟨_, rfl⟩
      rw [hS] at hr Hsum ⊢
      clear hS
      obtain ⟨reel, i, o', fade, note⟩ := ev
      obtain ⟨ht1, ht2⟩ := ht
      obtain ⟨hi, ho⟩ := ht1
      simp only at hi ho ht2 q0 q1 q2 q3 q4 Hsum
      go_wp2
      go_region_held3 (fun w' => Gr w w' ∧ w'.cell? ⟨wr.heap.size, 0, none⟩ = some (.string reel) ∧ w'.cell? ⟨wr.heap.size, 1, none⟩ = some (.int .i64 i) ∧ w'.cell? ⟨wr.heap.size, 2, none⟩ = some (.int .i64 o') ∧ w'.cell? ⟨wr.heap.size, 3, none⟩ = some (.int .i64 fade) ∧ w'.cell? ⟨wr.heap.size, 4, none⟩ = some (.string note)) (first | exact ⟨(hGx.alloc _).drew, by simp, by simp, by simp, by simp, by simp⟩ | exact ⟨Gr.trans (hGx.alloc _).drew hg, hg.cell (by simp), hg.cell (by simp), hg.cell (by simp), hg.cell (by simp), hg.cell (by simp)⟩)
        (first | (go_at_call 46; refine (frames_in ⟨_, _, _, _, _⟩ _ hi ho).mono ?_; rintro e w' ⟨rfl, hg⟩))
      rename_i hS
      obtain ⟨hG2, -⟩ := hS
      have e1 : IntKind.i64.wrap (o' - i - fade) = o' - i - fade := IntWalk.i64_in _ (by omega)
      have e2 : IntKind.i64.wrap (S + (o' - i - fade)) = S + (o' - i - fade) := IntWalk.i64_in _ (by omega)
      have E := Lib.hid (And.intro e1 e2)
      clear e1 e2 hg
      go_wp2
      go_roundg (gk - 1)
      case measure => omega
      case rel =>
        refine ⟨hG2, k + 1, by omega, ?_, by go_num⟩
        rw [E.out.1, E.out.2, Hsum.out]
    · have hkn : k = n := by omega
      have hfull : evs.take k = evs := List.take_of_length_le (by rw [Hn.out]; omega)
      rw [hfull]
      have h1 : decide (k < n) = false := decide_eq_false hlt
      clear hfull
      go_wp2
      go_ret2
      exact ⟨rfl, hGx⟩

theorem length_any (l : CL) (A : Option Addr) (c : Nat) (w : World) (hL : Laid w) (hc : l.evs.length ≤ c) (hS : EvsAt w A l.evs) (hsz : ∀ e ∈ l.evs, e.reel.size ≤ maxLen ∧ e.note.size ≤ maxLen) :
    Calls Tryz.prog 18 #[.agg #[.string l.title, .int .i64 l.rate, .slice A l.evs.length c]] w fun r w' => LengthEnd w.heap.size w' l r (check l) ∧ Gr w w' := by
  cases h : check l with
  | none => rw [← h]; exact length_good l A c w h hL hc hS hsz
  | some p => obtain ⟨k, e⟩ := p; rw [← h]; exact length_bad l A c w k e h hL hc hS hsz
end Go.Proofs.Cuts
