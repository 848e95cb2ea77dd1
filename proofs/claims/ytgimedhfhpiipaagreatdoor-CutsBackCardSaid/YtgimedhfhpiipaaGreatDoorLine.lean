/-
  cuts.line of an event that may be. Conditions: the rate is one, the event may be; the listed variables lie in the world.
-/
import Derived.Test.YtgimedhfhpiipaaGreatDoorNameOf2
import Derived.Test.YtgimedhfhpiipaaGreatDoorQuoted
import Derived.Test.YtgimedhfhpiipaaGreatDoorEvent
namespace Go.Proofs.Cuts
open Go.RowKit

/-- How an event is written. -/
def evLine (r : Int) (e : Ev) : List UInt8 :=
  (if 0 < e.fade then [102, 97, 100, 101, 32] ++ Lib.itoa e.fade ++ [32] else [99, 117, 116, 32]) ++ bl e.reel ++ [32] ++ nameOf r e.i ++ [32] ++ nameOf r e.o ++ (if e.note.size = 0 then [] else 32 :: 34 :: (esc (bl e.note) ++ [34])) ++ [10]
theorem evLine_row (r : Int) (e : Ev) : evLine r e = rowText (evIts r e) ++ [10] := by
  unfold evLine rowText evIts
  by_cases h1 : 0 < e.fade
  · rw [if_pos h1, if_pos h1]
    by_cases h2 : e.note.size = 0
    · rw [if_pos h2, if_pos h2]; simp [rowOf, Row.line, lineOf, It.text]
    · rw [if_neg h2, if_neg h2]; simp [rowOf, Row.line, lineOf, It.text]
  · rw [if_neg h1, if_neg h1]
    by_cases h2 : e.note.size = 0
    · rw [if_pos h2, if_pos h2]; simp [rowOf, Row.line, lineOf, It.text]
    · rw [if_neg h2, if_neg h2]; simp [rowOf, Row.line, lineOf, It.text]
theorem bl_append (a b : ByteArray) : bl (a ++ b) = bl a ++ bl b := by
  simp [bl, ByteArray.data_append]
theorem bl_inj {a b : ByteArray} (h : bl a = bl b) : a = b := by rw [← ba_bl a, h, ba_bl]
theorem ba_size' (a : List UInt8) : (ba a).size = a.length := by
  show a.toArray.size = _
  simp
theorem nameOf_length (r n : Int) : (nameOf r n).length = 11 := rfl
theorem esc_length : ∀ l : List UInt8, (esc l).length ≤ 2 * l.length
  | [] => by simp [esc]
  | c :: t => by
    have := esc_length t
    rw [esc]
    repeat' split
    all_goals simp only [List.length_cons]; omega
theorem itoa_length {n : Int} (h0 : 1 ≤ n) (h1 : n ≤ 100) : (Lib.itoa n).length ≤ 3 := by
  have key : ∀ n : Fin 100, (Lib.itoa ((n.val : Int) + 1)).length ≤ 3 := by decide +kernel
  have := key ⟨(n - 1).toNat, by omega⟩
  have e : (((n - 1).toNat : Nat) : Int) + 1 = n := by omega
  simp only [e] at this
  exact this

theorem ret_str {a b : ByteArray} (h : a = b) : Ending.returned (.string a) = .returned (.string b) := by rw [h]
set_option maxRecDepth 100000 in
set_option maxHeartbeats 4000000 in
theorem line_any (r : Int) (e : Ev) (ah : List Ev) (w : World) (hr : isRate r = true) (hm : EvMay ah e (day r)) (hL : Laid w) :
    Calls Tryz.prog 51 #[.agg #[.string e.reel, .int .i64 e.i, .int .i64 e.o, .int .i64 e.fade, .string e.note], .int .i64 r] w fun x w' => x = .returned (.string (ba (evLine r e))) ∧ Gr w w' := by
  have hf := fadesB_range hm.fades
  have hreel : e.reel.size ≤ 16 := by
    have := hm.reel
    simp only [nameOk, Bool.and_eq_true, decide_eq_true_eq, bl_length] at this
    exact this.2
  have h0 := hm.i0
  have h1 := hm.io
  have h2 := hm.od
  have hB := (Gr.refl w).alloc (.cells #[.string e.reel, .int .i64 e.i, .int .i64 e.o, .int .i64 e.fade, .string e.note] 51)
  have Hin := Lib.hid (fun w1 (g : Gr w w1) => name_any r e.i w1 hr h0 (by omega) (hL.grow g))
  have Hout := Lib.hid (fun w1 (g : Gr w w1) => name_any r e.o w1 hr (by omega) h2 (hL.grow g))
  have Hit := Lib.hid (fun (h1 : 1 ≤ e.fade) w1 (g : Gr w w1) => itoa_any e.fade h1 hf.2 w1 (hL.grow g))
  have Hq := Lib.hid (fun w1 => quoted_any e.note w1 (valid_iff.1 hm.valid) (by have := hm.note; omega))
  obtain ⟨I, hI⟩ : ∃ I, ba (nameOf r e.i) = I := ⟨_, rfl⟩
  obtain ⟨O, hO⟩ : ∃ O, ba (nameOf r e.o) = O := ⟨_, rfl⟩
  obtain ⟨N, hN⟩ : ∃ N, ba (Lib.itoa e.fade) = N := ⟨_, rfl⟩
  obtain ⟨Q, hQ⟩ : ∃ Q, ba (34 :: (esc (bl e.note) ++ [34])) = Q := ⟨_, rfl⟩
  have hIs : I.size ≤ 20 := by rw [← hI, ba_size', nameOf_length]; omega
  have hOs : O.size ≤ 20 := by rw [← hO, ba_size', nameOf_length]; omega
  have hNs : 1 ≤ e.fade → N.size ≤ 20 := fun h => by rw [← hN, ba_size']; have := itoa_length h hf.2; omega
  have hQs : Q.size ≤ 300 := by
    rw [← hQ, ba_size']
    have := esc_length (bl e.note)
    have hn := hm.note
    rw [bl_length] at this
    simp only [List.length_cons, List.length_append, List.length_nil]
    omega
  have Hbl := Lib.hid (show bl I = nameOf r e.i ∧ bl O = nameOf r e.o ∧ bl N = Lib.itoa e.fade ∧ bl Q = 34 :: (esc (bl e.note) ++ [34]) from ⟨by rw [← hI, bl_ba], by rw [← hO, bl_ba], by rw [← hN, bl_ba], by rw [← hQ, bl_ba]⟩)
  rw [hI] at Hin
  rw [hO] at Hout
  rw [hN] at Hit
  rw [hQ] at Hq
  obtain ⟨L, hLL⟩ : ∃ L, evLine r e = L := ⟨_, rfl⟩
  have HLL := Lib.hid hLL
  rw [hLL]
  have Hb := Lib.hid (heap_new w (.cells #[.string e.reel, .int .i64 e.i, .int .i64 e.o, .int .i64 e.fade, .string e.note] 51))
  have HB := Lib.hid hB
  clear hI hO hN hQ hB hm hL hr h0 h1 h2 hLL
  obtain ⟨reel, i, o, fade, note⟩ := e
  simp only at Hin Hout Hit Hq Hb HB hf hreel hNs
  go_enter Tryz.func51, Tryz.ntmps51
  go_wp2_with fail
  refine (Hin.out _ HB.out).mono ?_
  rintro x w1 ⟨rfl, hg1⟩
  have hb1 := (hg1.below.block _ (Array.getElem?_eq_some_iff.1 Hb.out).1).trans Hb.out
  obtain ⟨c0, c1, c2, c3, c4, cf⟩ := cells5 hb1
  have HG1 := Lib.hid (HB.out.trans hg1)
  have Hb1 := Lib.hid hb1
  clear hg1 hb1
  go_wp2_with fail
  refine (Hout.out _ HG1.out).mono ?_
  rintro x w2 ⟨rfl, hg2⟩
  have hb2 := (hg2.below.block _ (Array.getElem?_eq_some_iff.1 Hb1.out).1).trans Hb1.out
  clear c0 c1 c2 c3 c4 cf
  obtain ⟨c0, c1, c2, c3, c4, cf⟩ := cells5 hb2
  have HG2 := Lib.hid (HG1.out.trans hg2)
  have Hb2 := Lib.hid hb2
  clear hg2 hb2
  have hsizes : ∀ a b : ByteArray, (a ++ b).size = a.size + b.size := fun a b => ByteArray.size_append
  by_cases hfd : 0 < fade
  · have hNs' := hNs (by omega)
    have HitF := Lib.hid (Hit.out (by omega) _ HG2.out)
    have Hfd := Lib.hid hfd
    have hd1 : decide (0 < fade) = true := decide_eq_true hfd
    clear hNs Hit
    go_wp2_with fail
    refine HitF.out.mono ?_
    rintro x w3 ⟨rfl, hg3⟩
    have hb3 := (hg3.below.block _ (Array.getElem?_eq_some_iff.1 Hb2.out).1).trans Hb2.out
    clear c0 c1 c2 c3 c4 cf
    obtain ⟨c0, c1, c2, c3, c4, cf⟩ := cells5 hb3
    have HG3 := Lib.hid (HG2.out.trans hg3)
    clear hg3 hb3
    by_cases hnt : note.size = 0
    · obtain rfl : note = ⟨#[]⟩ := bl_inj (List.eq_nil_of_length_eq_zero (by rw [bl_length]; exact hnt))
      go_wp2
      go_ret
      refine ⟨ret_str (bl_inj ?_), HG3.out⟩
      rw [bl_ba, ← HLL.out, evLine]
      dsimp only
      rw [if_pos Hfd.out, if_pos (show (⟨#[]⟩ : ByteArray).size = 0 from rfl)]
      simp only [bl_append, Hbl.out.1, Hbl.out.2.1, Hbl.out.2.2.1]
      simp [bl]
    · have hne : note.toList ≠ [] := fun e => hnt (by rw [← bl_length, bl, ← ByteArray.toList_eq, e]; rfl)
      have he : note.toList.isEmpty = false := by simpa using hne
      have Hnt := Lib.hid hnt
      clear hnt
      go_wp2_with fail
      refine (Hq.out _).mono ?_
      rintro x w4 ⟨rfl, hg4⟩
      have HG4 := Lib.hid (HG3.out.trans hg4)
      clear hg4 c0 c1 c2 c3 c4 cf
      go_wp2
      go_ret
      refine ⟨ret_str (bl_inj ?_), HG4.out⟩
      rw [bl_ba, ← HLL.out, evLine, if_pos Hfd.out, if_neg Hnt.out]
      simp only [bl_append, Hbl.out.1, Hbl.out.2.1, Hbl.out.2.2.1, Hbl.out.2.2.2]
      simp [bl]
  · have Hfd := Lib.hid hfd
    have hd1 : decide (0 < fade) = false := decide_eq_false hfd
    clear hNs Hit
    by_cases hnt : note.size = 0
    · obtain rfl : note = ⟨#[]⟩ := bl_inj (List.eq_nil_of_length_eq_zero (by rw [bl_length]; exact hnt))
      go_wp2
      go_ret
      refine ⟨ret_str (bl_inj ?_), HG2.out⟩
      rw [bl_ba, ← HLL.out, evLine]
      dsimp only
      rw [if_neg (Int.not_lt.2 Hfd.out), if_pos (show (⟨#[]⟩ : ByteArray).size = 0 from rfl)]
      simp only [bl_append, Hbl.out.1, Hbl.out.2.1]
      simp [bl]
    · have hne : note.toList ≠ [] := fun e => hnt (by rw [← bl_length, bl, ← ByteArray.toList_eq, e]; rfl)
      have he : note.toList.isEmpty = false := by simpa using hne
      have Hnt := Lib.hid hnt
      clear hnt
      go_wp2_with fail
      refine (Hq.out _).mono ?_
      rintro x w4 ⟨rfl, hg4⟩
      have HG4 := Lib.hid (HG2.out.trans hg4)
      clear hg4 c0 c1 c2 c3 c4 cf
      go_wp2
      go_ret
      refine ⟨ret_str (bl_inj ?_), HG4.out⟩
      rw [bl_ba, ← HLL.out, evLine]
      dsimp only
      rw [if_neg (Int.not_lt.2 Hfd.out), if_neg Hnt.out]
      simp only [bl_append, Hbl.out.1, Hbl.out.2.1, Hbl.out.2.2.2]
      simp [bl]
end Go.Proofs.Cuts
