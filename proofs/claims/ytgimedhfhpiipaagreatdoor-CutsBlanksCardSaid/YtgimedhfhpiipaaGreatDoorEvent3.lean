/-
  (*reader).event at every list that Parse hands it. Conditions: as in Event2.
-/
import Derived.Test.YtgimedhfhpiipaaGreatDoorEvent2
namespace Go.Proofs.Cuts
open Go.RowKit

theorem event_any (P R S B : Nat) (end_ : Int) (cl : CL) (x : Wd) (l : List Wd) (w : World) (h : Rd w R S end_ (x :: l)) (hS : S ≤ w.heap.size) (hC : CLAt w B P cl) (hPR : P ≠ R) (hsz : ∀ y ∈ x :: l, y.text = false → y.s.size ≤ 20000) (hL : Laid w) (h20 : 20 ≤ R)
    (hlen : cl.evs.length ≤ 200) (h20P : 20 ≤ P) (h20B : 20 ≤ B) (hBw : B ≤ w.heap.size) (hev : ∀ e ∈ cl.evs, e.reel.size ≤ maxLen ∧ e.note.size ≤ maxLen) :
    Calls Tryz.prog 28 #[.pointer (some ⟨R, 0, none⟩), .pointer (some ⟨P, 0, none⟩)] w fun e w' => EventEnd w.heap.size B P cl w' e (eventLine end_ cl (x :: l)) ∧ Kv R P B w w' := by
  by_cases h200 : cl.evs.length = 200
  · exact event_full P R S B end_ cl x l w h hC h200
  · exact event_rest P R S B end_ cl (x :: l) w h hS hC hPR hsz hL h20 h200 (by omega) h20P h20B hBw hev

theorem nameOk_size {s : ByteArray} (h : nameOk (bl s) = true) : s.size ≤ 16 := by
  unfold nameOk at h
  simp only [Bool.and_eq_true, decide_eq_true_eq, bl_length] at h
  exact h.2
/-- What the line's event is made of: short texts; one more event than before, and at most 200. -/
theorem eventLine_size {end_ : Int} {cl : CL} {l : List Wd} {ev : Ev} (h : eventLine end_ cl l = .ok ev) : cl.evs.length ≠ 200 ∧ ev.note.size ≤ 100 ∧ ev.reel.size ≤ 16 := by
  by_cases h200 : cl.evs.length = 200
  · rw [eventLine.eq_def, if_pos h200] at h; cases h
  · refine ⟨h200, ?_⟩
    rw [eventLine_parts end_ cl l h200] at h
    cases h1 : plainW end_ (fun s => s == cutS || s == fadeS) l with
    | error e => rw [h1] at h; cases h
    | ok p =>
      obtain ⟨first, l1⟩ := p
      rw [h1] at h
      simp only at h
      cases h2 : fadePart end_ first l1 with
      | error e => rw [h2] at h; cases h
      | ok p =>
        obtain ⟨fade, l2⟩ := p
        rw [h2] at h
        simp only [eventTail] at h
        cases h3 : plainW end_ (fun s => nameOk (bl s)) l2 with
        | error e => rw [h3] at h; cases h
        | ok p =>
          obtain ⟨nm, l3⟩ := p
          rw [h3] at h
          simp only at h
          cases h4 : timeW end_ cl.rate l3 with
          | error e => rw [h4] at h; cases h
          | ok p =>
            obtain ⟨i, x4, l4⟩ := p
            rw [h4] at h
            simp only at h
            cases h5 : timeW end_ cl.rate l4 with
            | error e => rw [h5] at h; cases h
            | ok p =>
              obtain ⟨o, out, l5⟩ := p
              rw [h5] at h
              simp only [eventNote] at h
              cases h6 : notePart end_ l5 with
              | error e => rw [h6] at h; cases h
              | ok p =>
                obtain ⟨note, l6⟩ := p
                rw [h6] at h
                simp only [eventDone] at h
                cases h7 : doneW l6 with
                | some e => rw [h7] at h; cases h
                | none =>
                  rw [h7] at h
                  simp only [eventCheck] at h
                  cases h8 : check { cl with evs := cl.evs ++ [⟨nm.s, i, o, fade, note⟩] } with
                  | none => rw [h8] at h; cases h; exact ⟨notePart_size h6, nameOk_size (plainW_ok h3).2.1⟩
                  | some ke =>
                    obtain ⟨k, e⟩ := ke
                    rw [h8] at h
                    simp only at h
                    split at h <;> cases h
end Go.Proofs.Cuts
