/-
  CutsLengths at a list that may not be. Conditions: the listed variables lie in the world; the list's events can be read.
-/
import Derived.Test.YtgimedhfhpiipaaGreatDoorPLen
import Derived.Test.YtgimedhfhpiipaaGreatDoorAlive
import Derived.Test.YtgimedhfhpiipaaGreatDoorEvented2
import Derived.WalkLawsBesides
namespace Go.Proofs.Cuts
open Go.RowKit

set_option maxRecDepth 100000 in
set_option maxHeartbeats 4000000 in
theorem lengths_bad (l : CL) (A : Option Addr) (c : Nat) (at_ : Int) (w : World) (k e : Int) (hck : check l = some (k, e)) (hL : Laid w) (hc : l.evs.length ≤ c) (hS : EvsAt w A l.evs) (hsz : ∀ e ∈ l.evs, e.reel.size ≤ maxLen ∧ e.note.size ≤ maxLen) :
    Calls Tryz.prog 6 #[.agg #[.string l.title, .int .i64 l.rate, .slice A l.evs.length c], .int .i64 at_] w fun r w' => r = .returned (.bool true) ∧ Gr w w' := by
  have hg0 := (Gr.refl w).alloc (.cells #[.string l.title, .int .i64 l.rate, .slice A l.evs.length c] 30)
  have Hchk := Lib.hid (fun w1 (g : Gr w w1) => check_any l A c w1 (hL.grow g) hc (hS.grow g) hsz)
  have Hlen := Lib.hid (fun w1 (g : Gr w w1) => length_any l A c w1 (hL.grow g) hc (hS.grow g) hsz)
  have Hal := Lib.hid (alive_any _ (hL.grow hg0))
  rw [hck] at Hchk Hlen
  have Hb := Lib.hid (heap_new w (.cells #[.string l.title, .int .i64 l.rate, .slice A l.evs.length c] 30))
  have Hg := Lib.hid hg0
  clear hg0 hck hL hc hS hsz
  obtain ⟨title, rate, evs⟩ := l
  obtain ⟨n, hn⟩ : ∃ n, evs.length = n := ⟨_, rfl⟩
  simp only [hn] at Hchk Hlen Hg Hal Hb ⊢
  clear hn
  go_enter Tryz.func6, Tryz.ntmps6
  go_wp2_with fail
  refine Hal.out.mono ?_
  rintro r w1 ⟨rfl, hg1⟩
  have hG1 := Hg.out.trans hg1
  have hb1 := (hg1.below.block _ (Array.getElem?_eq_some_iff.1 Hb.out).1).trans Hb.out
  obtain ⟨c0, c1, c2, cf⟩ := cells3 hb1
  have HG1 := Lib.hid hG1
  have Hb1 := Lib.hid hb1
  clear hg1 hG1 hb1
  go_wp2_with fail
  refine (Hchk.out _ HG1.out).mono ?_
  rintro r w2 ⟨⟨v, rfl, hv⟩, hg2⟩
  obtain ⟨b, rfl, hb, hh⟩ := hv
  have hG2 := HG1.out.trans hg2
  have hb2 := (hg2.below.block _ (Array.getElem?_eq_some_iff.1 Hb1.out).1).trans Hb1.out
  clear c0 c1 c2 cf
  obtain ⟨c0, c1, c2, cf⟩ := cells3 hb2
  have HG2 := Lib.hid hG2
  clear hg2 hG2 hb2 hb hh
  go_wp2_with fail
  refine (Hlen.out _ HG2.out).mono ?_
  rintro r w3 ⟨⟨v, rfl, hv⟩, hg3⟩
  obtain ⟨b', rfl, hb, hh⟩ := hv
  have HG3 := Lib.hid (HG2.out.trans hg3)
  clear hg3 hb hh c0 c1 c2 cf
  go_wp2
  go_quiet (fail)
  go_wp2
  go_ret
  exact ⟨rfl, HG3.out.drewN _⟩
end Go.Proofs.Cuts
