/-
  cuts.Check: what it returns. Conditions: the listed variables lie in the world; the list is one that can be read.
-/
import Derived.Test.YtgimedhfhpiipaaGreatDoorCheckEv
import Derived.Deep.DeepCutAuto
namespace Go.Proofs.Cuts
open Go.RowKit

/-- An error of two numbers, behind a pointer to a block of its own: 82, 83: *api.Fault; 99, 101: *cuts.EventError. -/
def Fault (T U B : Nat) (w : World) (v : Value) (a e : Int) : Prop :=
  ∃ b, v = .iface T (.pointer (some ⟨b, 0, none⟩)) ∧ B ≤ b ∧ w.heap[b]? = some (.cells #[.int .i64 a, .int .i64 e] U (0, 0))
theorem Fault.grow {T U B : Nat} {w w' : World} {v : Value} {a e : Int} (h : Fault T U B w v a e) (g : Gr w w') : Fault T U B w' v a e := by
  obtain ⟨b, hv, hb, hc⟩ := h
  exact ⟨b, hv, hb, (g.below.block b (Array.getElem?_eq_some_iff.1 hc).1).trans hc⟩
theorem Fault.mono {T U B B' : Nat} {w : World} {v : Value} {a e : Int} (h : Fault T U B w v a e) (g : B' ≤ B) : Fault T U B' w v a e := by
  obtain ⟨b, hv, hb, hc⟩ := h
  exact ⟨b, hv, Nat.le_trans g hb, hc⟩

theorem wrong_any (k e : Int) (w : World) : Calls Tryz.prog 38 #[.int .i64 k, .int .i64 e] w fun r w' => (∃ v, r = .returned v ∧ Fault 99 101 w.heap.size w' v k e) ∧ Gr w w' := by
  go_enter Tryz.func38, Tryz.ntmps38
  go_wp2
  go_ret
  exact ⟨⟨_, rfl, w.heap.size, rfl, Nat.le_refl _, heap_new _ _⟩, (Gr.refl _).alloc _⟩
theorem fault_any (k e : Int) (w : World) : Calls Tryz.prog 23 #[.int .i64 k, .int .i64 e] w fun r w' => (∃ v, r = .returned v ∧ Fault 82 83 w.heap.size w' v k e) ∧ Gr w w' := by
  go_enter Tryz.func23, Tryz.ntmps23
  go_wp2
  go_ret
  exact ⟨⟨_, rfl, w.heap.size, rfl, Nat.le_refl _, heap_new _ _⟩, (Gr.refl _).alloc _⟩

/-- What Check's answer says. -/
def CheckEnd (B : Nat) (w : World) (v : Value) : Option (Int × Int) → Prop
  | none => v = .nilIface
  | some (k, e) => Fault 99 101 B w v k e

theorem checkEvs_ok (d : Int) (ahead : List Ev) (e : Ev) (r : List Ev) (k : Nat) (h : checkEv ahead e d = 0) : checkEvs d ahead (e :: r) k = checkEvs d (ahead ++ [e]) r (k + 1) := by
  rw [checkEvs, if_pos h]
theorem checkEvs_no (d : Int) (ahead : List Ev) (e : Ev) (r : List Ev) (k : Nat) (h : checkEv ahead e d ≠ 0) : checkEvs d ahead (e :: r) k = some ((k : Int), checkEv ahead e d) := by
  rw [checkEvs, if_neg h]
/-- An event that may be lies within a day. -/
theorem checkEv_zero {ahead : List Ev} {e : Ev} {d : Int} (hd : d ≤ 10000000) (h : checkEv ahead e d = 0) : Timed e ∧ (0 ≤ e.fade ∧ e.fade ≤ 100) := by
  unfold checkEv at h
  split at h
  · cases h
  split at h
  · cases h
  split at h
  · cases h
  rename_i h1 h2 h3
  refine ⟨⟨by omega, by omega⟩, ?_⟩
  unfold fadesB at h3
  split at h3
  · omega
  split at h3
  · simp at h3
  · omega
theorem day_range (r : Int) : 0 ≤ day r ∧ day r ≤ 10000000 := by
  have h1 := rcount_range r; have h2 := rdrop_range r
  unfold day rcount rdrop; repeat' split
  all_goals omega

/-- PerDay's two answers. -/
def pdD (r : Int) : Int := if isRate r then day r else 0
def pdE (r : Int) : Int := if isRate r then 0 else 181
theorem perDay_any (r : Int) (w : World) (hL : Laid w) : Calls Tryz.prog 37 #[.int .i64 r] w fun e w' => e = .returned (.tuple #[.int .i64 (pdD r), .int .i64 (pdE r)]) ∧ Gr w w' := by
  unfold pdD pdE
  cases h : isRate r with
  | false => exact perDay_no r w h
  | true => exact perDay_yes r w h hL

theorem check_title (l : CL) (A : Option Addr) (n c : Nat) (w : World) (hL : Laid w) (h : 100 < l.title.size) :
    Calls Tryz.prog 15 #[.agg #[.string l.title, .int .i64 l.rate, .slice A n c]] w fun r w' => (∃ v, r = .returned v ∧ Fault 99 101 w.heap.size w' v (-1) 191) ∧ Gr w w' := by
  obtain ⟨title, rate, evs⟩ := l
  simp only at h
  have hbox := (Gr.refl w).alloc (.cells #[.string title, .int .i64 rate, .slice A n c] 30)
  have b0 : (w.alloc (.cells #[.string title, .int .i64 rate, .slice A n c] 30)).cell? ⟨w.heap.size, 0, none⟩ = some (.string title) := by simp
  go_enter Tryz.func15, Tryz.ntmps15
  go_wp2_with fail
  refine (perDay_any rate _ (hL.grow hbox)).mono ?_
  rintro e w' ⟨rfl, hg⟩
  have b0' := hg.cell b0
  clear b0
  go_wp2_with fail
  refine (wrong_any _ _ _).mono ?_
  rintro e w2 ⟨⟨v, rfl, hv⟩, hg2⟩
  go_wp2
  go_ret
  exact ⟨⟨v, rfl, hv.mono (hbox.trans hg).size⟩, (hbox.trans hg).trans hg2⟩

theorem check_utf8 (l : CL) (A : Option Addr) (n c : Nat) (w : World) (hL : Laid w) (h : ¬ 100 < l.title.size) (hu : Lib.validD (bl l.title) = false) :
    Calls Tryz.prog 15 #[.agg #[.string l.title, .int .i64 l.rate, .slice A n c]] w fun r w' => (∃ v, r = .returned v ∧ Fault 99 101 w.heap.size w' v (-1) 192) ∧ Gr w w' := by
  obtain ⟨title, rate, evs⟩ := l
  simp only at h
  have Hu := Lib.hid hu
  clear hu
  have hbox := (Gr.refl w).alloc (.cells #[.string title, .int .i64 rate, .slice A n c] 30)
  have b0 : (w.alloc (.cells #[.string title, .int .i64 rate, .slice A n c] 30)).cell? ⟨w.heap.size, 0, none⟩ = some (.string title) := by simp
  go_enter Tryz.func15, Tryz.ntmps15
  go_wp2_with fail
  refine (perDay_any rate _ (hL.grow hbox)).mono ?_
  rintro e w' ⟨rfl, hg⟩
  have b0' := hg.cell b0
  clear b0
  have hL' := (hL.grow hbox).grow hg
  go_wp2_with fail
  refine (Tryz.utf8_ValidString title _ (by omega) hL'.u8).mono ?_
  rintro e w1 ⟨rfl, hb⟩
  have hg1 : Gr w' w1 := hb
  clear hb
  rw [show Lib.validD title.data.toList = false from Hu.out]
  go_wp2_with fail
  refine (wrong_any _ _ _).mono ?_
  rintro e w2 ⟨⟨v, rfl, hv⟩, hg2⟩
  go_wp2
  go_ret
  exact ⟨⟨v, rfl, hv.mono ((hbox.trans hg).trans hg1).size⟩, ((hbox.trans hg).trans hg1).trans hg2⟩

theorem check_rate (l : CL) (A : Option Addr) (n c : Nat) (w : World) (hL : Laid w) (h : ¬ 100 < l.title.size) (hu : Lib.validD (bl l.title) = true) (hr : isRate l.rate = false) :
    Calls Tryz.prog 15 #[.agg #[.string l.title, .int .i64 l.rate, .slice A n c]] w fun r w' => (∃ v, r = .returned v ∧ Fault 99 101 w.heap.size w' v (-1) 181) ∧ Gr w w' := by
  obtain ⟨title, rate, evs⟩ := l
  simp only at h hr
  have Hu := Lib.hid hu
  have Hr := Lib.hid hr
  clear hu hr
  have hbox := (Gr.refl w).alloc (.cells #[.string title, .int .i64 rate, .slice A n c] 30)
  have b0 : (w.alloc (.cells #[.string title, .int .i64 rate, .slice A n c] 30)).cell? ⟨w.heap.size, 0, none⟩ = some (.string title) := by simp
  go_enter Tryz.func15, Tryz.ntmps15
  go_wp2_with fail
  refine (perDay_no rate _ Hr.out).mono ?_
  rintro e w' ⟨rfl, hg⟩
  have b0' := hg.cell b0
  clear b0
  have hL' := (hL.grow hbox).grow hg
  go_wp2_with fail
  refine (Tryz.utf8_ValidString title _ (by omega) hL'.u8).mono ?_
  rintro e w1 ⟨rfl, hb⟩
  have hg1 : Gr w' w1 := hb
  clear hb
  rw [show Lib.validD title.data.toList = true from Hu.out]
  go_wp2_with fail
  refine (wrong_any _ _ _).mono ?_
  rintro e w2 ⟨⟨v, rfl, hv⟩, hg2⟩
  go_wp2
  go_ret
  exact ⟨⟨v, rfl, hv.mono ((hbox.trans hg).trans hg1).size⟩, ((hbox.trans hg).trans hg1).trans hg2⟩

theorem check_many (l : CL) (A : Option Addr) (n c : Nat) (w : World) (hL : Laid w) (h : ¬ 100 < l.title.size) (hu : Lib.validD (bl l.title) = true) (hr : isRate l.rate = true) (hn : 200 < n) :
    Calls Tryz.prog 15 #[.agg #[.string l.title, .int .i64 l.rate, .slice A n c]] w fun r w' => (∃ v, r = .returned v ∧ Fault 99 101 w.heap.size w' v (-1) 196) ∧ Gr w w' := by
  obtain ⟨title, rate, evs⟩ := l
  simp only at h hr
  have Hu := Lib.hid hu
  have Hr := Lib.hid hr
  clear hu hr
  have hbox := (Gr.refl w).alloc (.cells #[.string title, .int .i64 rate, .slice A n c] 30)
  have b0 : (w.alloc (.cells #[.string title, .int .i64 rate, .slice A n c] 30)).cell? ⟨w.heap.size, 0, none⟩ = some (.string title) := by simp
  have b2 : (w.alloc (.cells #[.string title, .int .i64 rate, .slice A n c] 30)).cell? ⟨w.heap.size, 2, none⟩ = some (.slice A n c) := by simp
  go_enter Tryz.func15, Tryz.ntmps15
  go_wp2_with fail
  refine (perDay_yes rate _ Hr.out (hL.grow hbox)).mono ?_
  rintro e w' ⟨rfl, hg⟩
  have b0' := hg.cell b0
  have b2' := hg.cell b2
  clear b0 b2
  have hL' := (hL.grow hbox).grow hg
  go_wp2_with fail
  refine (Tryz.utf8_ValidString title _ (by omega) hL'.u8).mono ?_
  rintro e w1 ⟨rfl, hb⟩
  have hg1 : Gr w' w1 := hb
  clear hb
  have b2 := hg1.cell b2'
  clear b2' b0'
  rw [show Lib.validD title.data.toList = true from Hu.out]
  go_wp2_with fail
  refine (wrong_any _ _ _).mono ?_
  rintro e w2 ⟨⟨v, rfl, hv⟩, hg2⟩
  go_wp2
  go_ret
  exact ⟨⟨v, rfl, hv.mono ((hbox.trans hg).trans hg1).size⟩, ((hbox.trans hg).trans hg1).trans hg2⟩
end Go.Proofs.Cuts
