/-
  cuts.checkEvent: what it returns. Conditions: as it says (what its caller has looked at lies within a day).
-/
import Derived.Test.YtgimedhfhpiipaaGreatDoorCheck
namespace Go.Proofs.Cuts
open Go.RowKit

theorem checkEvent_rest (A : Option Addr) (c : Nat) (ahead : List Ev) (e : Ev) (d : Int) (w : World) (hL : Laid w) (hr : e.reel.size ≤ maxLen) (hnote : e.note.size ≤ maxLen) (h : nameOk (bl e.reel) = true) (ht : ¬ (e.i < 0 ∨ e.o ≤ e.i ∨ d ≤ e.o)) (hd : d ≤ 10000000)
    (hS : EvsAt w A ahead) (hn : ahead.length ≤ 1000) (hA : ∀ l ∈ ahead, Timed l ∧ (0 ≤ l.fade ∧ l.fade ≤ 100)) (r : Int)
    (hres : r = (if fadesB ahead e = false then 195 else if 100 < e.note.size then 191 else if Lib.validD (bl e.note) = false then 192 else 0)) :
    Calls Tryz.prog 40 #[.slice A ahead.length c, .agg #[.string e.reel, .int .i64 e.i, .int .i64 e.o, .int .i64 e.fade, .string e.note], .int .i64 d] w fun v w' => v = .returned (.int .i64 r) ∧ Gr w w' := by
  obtain ⟨reel, i, o, fade, note⟩ := e
  simp only at ht hr hnote
  unfold maxLen at hnote
  have hi : 0 ≤ i := by omega
  have hio : i < o := by omega
  have hod : o < d := by omega
  have hT : Timed ⟨reel, i, o, fade, note⟩ := ⟨⟨hi, by show i ≤ _; omega⟩, ⟨by show 0 ≤ o; omega, by show o ≤ _; omega⟩⟩
  clear ht
  have Hn := Lib.hid h
  clear h
  have hbox := (Gr.refl w).alloc (.cells #[.string reel, .int .i64 i, .int .i64 o, .int .i64 fade, .string note] 51)
  cases hf : fadesB ahead ⟨reel, i, o, fade, note⟩ with
  | false =>
    rw [hf, if_pos rfl] at hres
    have Hf := Lib.hid hf
    clear hf
    subst hres
    go_enter Tryz.func40, Tryz.ntmps40
    go_wp2_with fail
    refine (isName_any reel _ hr).mono ?_
    rintro e w' ⟨rfl, rfl⟩
    rw [Hn.out]
    go_wp2_with fail
    refine (fades_any A c ahead ⟨reel, i, o, fade, note⟩ _ (hS.grow hbox) hn hA hT).mono ?_
    rintro e w' ⟨rfl, hg⟩
    rw [Hf.out]
    go_wp2
    go_ret
    exact ⟨rfl, hbox.trans hg⟩
  | true =>
    rw [hf, if_neg (by simp)] at hres
    have Hf := Lib.hid hf
    clear hf
    by_cases hl : 100 < note.size
    · rw [if_pos hl] at hres
      subst hres
      go_enter Tryz.func40, Tryz.ntmps40
      go_wp2_with fail
      refine (isName_any reel _ hr).mono ?_
      rintro e w' ⟨rfl, rfl⟩
      rw [Hn.out]
      go_wp2_with fail
      refine (fades_any A c ahead ⟨reel, i, o, fade, note⟩ _ (hS.grow hbox) hn hA hT).mono ?_
      rintro e w' ⟨rfl, hg⟩
      rw [Hf.out]
      have b4 : w'.cell? ⟨w.heap.size, 4, none⟩ = some (.string note) := hg.cell (by simp)
      go_wp2
      go_ret
      exact ⟨rfl, hbox.trans hg⟩
    · rw [if_neg hl] at hres
      cases hv : Lib.validD (bl note) with
      | false =>
        rw [hv, if_pos rfl] at hres
        have Hv := Lib.hid hv
        clear hv
        subst hres
        go_enter Tryz.func40, Tryz.ntmps40
        go_wp2_with fail
        refine (isName_any reel _ hr).mono ?_
        rintro e w' ⟨rfl, rfl⟩
        rw [Hn.out]
        go_wp2_with fail
        refine (fades_any A c ahead ⟨reel, i, o, fade, note⟩ _ (hS.grow hbox) hn hA hT).mono ?_
        rintro e w' ⟨rfl, hg⟩
        rw [Hf.out]
        have b4 : w'.cell? ⟨w.heap.size, 4, none⟩ = some (.string note) := hg.cell (by simp)
        have hL' := hL.grow (hbox.trans hg)
        go_wp2_with fail
        refine (Tryz.utf8_ValidString note _ hnote hL'.u8).mono ?_
        rintro e w2 ⟨rfl, hb⟩
        rw [show Lib.validD note.data.toList = false from Hv.out]
        go_wp2
        go_ret
        exact ⟨rfl, (hbox.trans hg).trans hb⟩
      | true =>
        rw [hv, if_neg (by simp)] at hres
        have Hv := Lib.hid hv
        clear hv
        subst hres
        go_enter Tryz.func40, Tryz.ntmps40
        go_wp2_with fail
        refine (isName_any reel _ hr).mono ?_
        rintro e w' ⟨rfl, rfl⟩
        rw [Hn.out]
        go_wp2_with fail
        refine (fades_any A c ahead ⟨reel, i, o, fade, note⟩ _ (hS.grow hbox) hn hA hT).mono ?_
        rintro e w' ⟨rfl, hg⟩
        rw [Hf.out]
        have b4 : w'.cell? ⟨w.heap.size, 4, none⟩ = some (.string note) := hg.cell (by simp)
        have hL' := hL.grow (hbox.trans hg)
        go_wp2_with fail
        refine (Tryz.utf8_ValidString note _ hnote hL'.u8).mono ?_
        rintro e w2 ⟨rfl, hb⟩
        rw [show Lib.validD note.data.toList = true from Hv.out]
        go_wp2
        go_ret
        exact ⟨rfl, (hbox.trans hg).trans hb⟩

theorem checkEvent_any (A : Option Addr) (c : Nat) (ahead : List Ev) (e : Ev) (d : Int) (w : World) (hL : Laid w) (hr : e.reel.size ≤ maxLen) (hnote : e.note.size ≤ maxLen) (hd : d ≤ 10000000)
    (hS : EvsAt w A ahead) (hn : ahead.length ≤ 1000) (hA : ∀ l ∈ ahead, Timed l ∧ (0 ≤ l.fade ∧ l.fade ≤ 100)) :
    Calls Tryz.prog 40 #[.slice A ahead.length c, .agg #[.string e.reel, .int .i64 e.i, .int .i64 e.o, .int .i64 e.fade, .string e.note], .int .i64 d] w fun v w' => v = .returned (.int .i64 (checkEv ahead e d)) ∧ Gr w w' := by
  unfold checkEv
  cases hn1 : nameOk (bl e.reel) with
  | false => rw [if_pos rfl]; exact checkEvent_name A c ahead e d w hr hn1
  | true =>
    rw [if_neg (by simp)]
    by_cases ht : e.i < 0 ∨ e.o ≤ e.i ∨ d ≤ e.o
    · rw [if_pos ht]; exact checkEvent_time A c ahead e d w hr hn1 ht
    · rw [if_neg ht]; exact checkEvent_rest A c ahead e d w hL hr hnote hn1 ht hd hS hn hA _ rfl
end Go.Proofs.Cuts
