/-
  sameEvents and same return true of lists that are the same. Conditions: the lists' events can be read.
-/
import Derived.Test.YtgimedhfhpiipaaGreatDoorCheck3
import Derived.Test.YtgimedhfhpiipaaGreatDoorReaderL
import Derived.BigQuiet
namespace Go.Proofs.Cuts
open Go.RowKit

set_option maxRecDepth 100000 in
theorem sameEvents_eq (l : List Ev) (A A' : Option Addr) (c c' : Nat) (w : World) (hl : l.length ≤ 1000000) (hS : EvsAt w A l) (hS' : EvsAt w A' l) :
    Calls Tryz.prog 33 #[.slice A l.length c, .slice A' l.length c'] w fun r w' => r = .returned (.bool true) ∧ Gr w w' := by
  obtain ⟨n, hn⟩ : ∃ n, l.length = n := ⟨_, rfl⟩
  rw [hn] at hl ⊢
  have Hn := Lib.hid hn
  have HS := Lib.hid hS
  have HS' := Lib.hid hS'
  clear hn hS hS'
  go_enter Tryz.func33, Tryz.ntmps33
  go_wp2
  go_loopg [5] n (fun g v wx => Gr w wx ∧ ∃ k : Nat, k + g = n ∧ v = .int .i64 k)
  case atStart => exact ⟨Gr.refl _, 0, by omega, rfl⟩
  case round =>
    obtain ⟨hG, k, hk, rfl⟩ := hrel
    by_cases hlt : k < n
    · obtain ⟨ev, hev⟩ : ∃ ev, l[k]? = some ev := by
        rw [List.getElem?_eq_getElem (by rw [Hn.out]; exact hlt)]; exact ⟨_, rfl⟩
      obtain ⟨b, o, rfl, hc⟩ : ∃ b o, A = some ⟨b, o, none⟩ ∧ ∀ k e, l[k]? = some e → EvAt w b o k e := by
        rcases HS.out with h0 | h1
        · rw [h0] at hev; cases hev
        · exact h1
      obtain ⟨b', o', rfl, hc'⟩ : ∃ b o, A' = some ⟨b, o, none⟩ ∧ ∀ k e, l[k]? = some e → EvAt w b o k e := by
        rcases HS'.out with h0 | h1
        · rw [h0] at hev; cases hev
        · exact h1
      obtain ⟨q0, q1, q2, q3, q4⟩ := (hc k ev hev).grow hG
      obtain ⟨p0, p1, p2, p3, p4⟩ := (hc' k ev hev).grow hG
      have hk0 : (0 : Int) ≤ (k : Int) := by omega
      have hk1 : (k : Int) < (n : Int) := by omega
      have HG := Lib.hid hG
      clear hc hc' hev hG
      obtain ⟨reel, i, o1, fade, note⟩ := ev
      simp only at q0 q1 q2 q3 q4 p0 p1 p2 p3 p4
      go_wp2
      go_quiet (fail)
      go_wp2
      go_roundg (gk - 1)
      case measure => omega
      case rel => exact ⟨HG.out.drewN _, k + 1, by omega, by go_num⟩
    · have hkn : ¬ ((k : Int) < (n : Int)) := by omega
      have HG := Lib.hid hG
      clear hG
      go_wp2
      go_ret
      exact ⟨rfl, HG.out⟩
set_option maxRecDepth 100000 in
theorem same_eq (l : CL) (A A' : Option Addr) (c c' : Nat) (w : World) (hl : l.evs.length ≤ 1000000) (hS : EvsAt w A l.evs) (hS' : EvsAt w A' l.evs) :
    Calls Tryz.prog 11 #[.agg #[.string l.title, .int .i64 l.rate, .slice A l.evs.length c], .agg #[.string l.title, .int .i64 l.rate, .slice A' l.evs.length c']] w fun r w' => r = .returned (.bool true) ∧ Gr w w' := by
  have hg := ((Gr.refl w).alloc (.cells #[.string l.title, .int .i64 l.rate, .slice A l.evs.length c] 30)).alloc (.cells #[.string l.title, .int .i64 l.rate, .slice A' l.evs.length c'] 30)
  have Hs := Lib.hid (sameEvents_eq l.evs A A' c c' _ hl (hS.grow hg) (hS'.grow hg))
  have h1 := heap_old (heap_new w (.cells #[.string l.title, .int .i64 l.rate, .slice A l.evs.length c] 30)) (.cells #[.string l.title, .int .i64 l.rate, .slice A' l.evs.length c'] 30)
  have h2 := heap_new_at (w := w.alloc (.cells #[.string l.title, .int .i64 l.rate, .slice A l.evs.length c] 30)) (k := w.heap.size + 1) (by simp) (.cells #[.string l.title, .int .i64 l.rate, .slice A' l.evs.length c'] 30)
  have Hg := Lib.hid hg
  have H12 := Lib.hid (And.intro h1 h2)
  clear hS hS' hg hl h1 h2
  obtain ⟨title, rate, evs⟩ := l
  obtain ⟨n, hn⟩ : ∃ n, evs.length = n := ⟨_, rfl⟩
  simp only [hn] at Hs Hg H12 ⊢
  clear hn
  go_enter Tryz.func11, Tryz.ntmps11
  go_wp2_with fail
  refine Hs.out.mono ?_
  rintro r w1 ⟨rfl, hg1⟩
  have hb1 := (hg1.below.block _ (Array.getElem?_eq_some_iff.1 H12.out.1).1).trans H12.out.1
  have hb2 := (hg1.below.block _ (Array.getElem?_eq_some_iff.1 H12.out.2).1).trans H12.out.2
  obtain ⟨c0, c1, c2, cf⟩ := cells3 hb1
  obtain ⟨d0, d1, d2, df⟩ := cells3 hb2
  have HG := Lib.hid (Hg.out.trans hg1)
  clear hb1 hb2 hg1
  go_wp2
  go_ret
  exact ⟨rfl, HG.out⟩
end Go.Proofs.Cuts
