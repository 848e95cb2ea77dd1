/-
  dailieslaw19.alive returns true. Condition: the listed variables lie in the world.
-/
import Derived.Test.YtgimedhfhpiipaaGreatDoorParse2
import Derived.Test.YtgimedhfhpiipaaGreatDoorLength
namespace Go.Proofs.Cuts
open Go.RowKit

def aliveS : ByteArray := ⟨#[108, 105, 115, 116, 32, 50, 53, 32, 34, 111, 110, 101, 34, 10, 99, 117, 116, 32, 97, 32, 48, 48, 58, 48, 48, 58, 48, 49, 58, 48, 48, 32, 48, 48, 58, 48, 48, 58, 48, 50, 58, 48, 48]⟩
def aliveL : CL := ⟨⟨#[111, 110, 101]⟩, 2, [⟨⟨#[97]⟩, 25, 50, 0, ⟨#[]⟩⟩]⟩
theorem parse_alive : parse aliveS = .ok aliveL := by kernel_rfl
theorem check_alive : check aliveL = none := by kernel_rfl

set_option maxRecDepth 100000 in
set_option maxHeartbeats 4000000 in
theorem alive_any (w : World) (hL : Laid w) : Calls Tryz.prog 8 #[] w fun e w' => e = .returned (.bool true) ∧ Gr w w' := by
  have hp := parse_any aliveS w hL
  rw [parse_alive] at hp
  have Hp := Lib.hid hp
  unfold aliveS at Hp
  clear hp
  go_enter Tryz.func8, Tryz.ntmps8
  go_wp2_with fail
  refine Hp.out.mono ?_
  rintro e w1 ⟨⟨v, rfl, hown⟩, hg1⟩
  have hlen : aliveL.evs.length = 1 := rfl
  rw [hlen] at hown
  obtain ⟨g, cap, rfl⟩ : ∃ g cap, v = .slice (some ⟨g, 0, none⟩) 1 cap := by
    rcases Joins.ownsRow_forms hown with ⟨_, h0⟩ | ⟨g, cap, rfl⟩
    · cases h0
    · exact ⟨_, _, rfl⟩
  have hev := evsAt_own (l := aliveL.evs) hown
  have hcap := own_cap hown
  have hgl := own_ge hown g rfl
  have hlth := Lib.hid (fun w2 (h2 : Gr w1 w2) => length_any aliveL (some ⟨g, 0, none⟩) cap w2 ((hL.grow hg1).grow h2) hcap (hev.grow h2) (by
    intro e he
    simp only [aliveL, List.mem_cons, List.not_mem_nil, or_false] at he
    subst he
    exact ⟨by decide, by decide⟩))
  obtain ⟨q0, q1, q2, q3, q4⟩ := (show EvAt w1 g 0 0 ⟨⟨#[97]⟩, 25, 50, 0, ⟨#[]⟩⟩ by
    rcases hev with h0 | ⟨b, o, h0, h1⟩
    · cases h0
    · cases h0; exact h1 0 _ rfl)
  have hG := (Gr.refl w1).alloc (.cells #[.string ⟨#[111, 110, 101]⟩, .int .i64 2, .slice (some ⟨g, 0, none⟩) 1 cap] 30)
  have HL := Lib.hid (hlth.out _ hG)
  have Hg1 := Lib.hid (And.intro hg1 hgl)
  have hcl := show CL.title aliveL = ⟨#[111, 110, 101]⟩ ∧ aliveL.rate = 2 from ⟨rfl, rfl⟩
  clear hown hev hlth hcl hgl hg1 hL
  have hb : (w1.alloc (.cells #[.string ⟨#[111, 110, 101]⟩, .int .i64 2, .slice (some ⟨g, 0, none⟩) 1 cap] 30)).heap[w1.heap.size]? = some (.cells #[.string ⟨#[111, 110, 101]⟩, .int .i64 2, .slice (some ⟨g, 0, none⟩) 1 cap] 30 (0, 0)) := heap_new _ _
  simp only [aliveL]
  go_wp2_with fail
  refine HL.out.mono ?_
  rintro e w2 ⟨hend, hg2⟩
  rw [check_alive] at hend
  obtain rfl : e = .returned (.tuple #[.int .i64 25, .nilIface]) := hend
  have hb2 := (hg2.below.block _ (Array.getElem?_eq_some_iff.1 hb).1).trans hb
  obtain ⟨c0, c1, c2, cf⟩ := cells3 hb2
  have hgo := hG.trans hg2
  replace q0 := hgo.cell q0
  replace q1 := hgo.cell q1
  replace q2 := hgo.cell q2
  replace q3 := hgo.cell q3
  replace q4 := hgo.cell q4
  simp only [Nat.zero_mul, Nat.zero_add] at q0 q1 q2 q3 q4
  have HG := Lib.hid (Hg1.out.1.trans hgo)
  clear hb hb2 hG hg2 hgo
  go_wp2
  go_ret
  exact ⟨rfl, HG.out⟩

end Go.Proofs.Cuts
