/-
  cuts.unruly returns the place of the first byte that belongs to no rune. Conditions: the text's length fits an int; the listed variables lie in the world.
-/
import Derived.Test.YtgimedhfhpiipaaGreatDoorTimecode
import Derived.Test.YtgimedhfhpiipaaGreatDoorShelf
import Derived.Lib.OthersKept
import Derived.Lib.IndexBytes
namespace Go.Proofs.Cuts
open Go.RowKit

theorem decodeL_at (s : ByteArray) (p : Nat) : Lib.decodeL ((bl s).drop p) = Utf8.decode s p := Lib.decodeL_drop s p
theorem bl_tail (s : ByteArray) (p : Nat) : (s.extract p s.size).data.toList = (bl s).drop p := by
  simp only [bl, ByteArray.data_extract, Array.toList_extract, List.extract]
  exact List.take_of_length_le (by simp)
theorem decodeGo_tail (s : ByteArray) (p : Nat) (h : p < s.size) : Lib.decodeGo (s.extract p s.size) = Lib.decodeL ((bl s).drop p) := by
  unfold Lib.decodeGo
  rw [if_neg (by simp [ByteArray.size_extract]; omega), ← Lib.decodeL_drop, bl_tail]
  rfl
theorem Gr.iterAt {w a : World} (h : Gr w a) {k : Nat} (hk : w.heap.size ≤ k) (s : ByteArray) (p : Nat) : Gr w (a.iterAt k s p) := Lib.below_iterAt h.below hk s p

theorem bl_length' (s : ByteArray) : (bl s).length = s.size := by simp [bl]
/-- What unruly answers. -/
def unrulyV : Option Nat → Int
  | none => -1
  | some k => k
theorem unruly_any (s : ByteArray) (w : World) (hs : s.size ≤ maxLen) (hL : Laid w) :
    Calls Tryz.prog 24 #[.string s] w fun e w' => e = .returned (.int .i64 (unrulyV (unruly (bl s)))) ∧ Gr w w' := by
  unfold maxLen at hs
  obtain ⟨ANS, hANS⟩ : ∃ a, unruly (bl s) = a := ⟨_, rfl⟩
  rw [hANS]
  unfold unruly at hANS
  have HA := Lib.hid hANS
  clear hANS
  go_enter Tryz.func24, Tryz.ntmps24
  go_wp2
  go_loopg [] (s.size + 1) (fun g wx => Gr w wx ∧ ∃ p : Nat, p ≤ s.size ∧ s.size - p < g ∧ wx.heap[w.heap.size]? = some (.stringIter s p) ∧ Hid (unrulyGo g ((bl s).drop p) p = ANS))
  case atStart => exact ⟨(Gr.refl w).alloc _, 0, by omega, by omega, World.iter_heap w s 0, Lib.hid (by rw [← HA.out, bl_length']; rfl)⟩
  case round =>
    obtain ⟨hG, p, hp, hgk, hit, HK⟩ := hrel
    obtain ⟨g, rfl⟩ : ∃ g, gk = g + 1 := ⟨gk - 1, by omega⟩
    by_cases hlt : p < s.size
    · have hne : (bl s).drop p ≠ [] := by
        intro h
        have := congrArg List.length h
        rw [List.length_drop, bl_length', List.length_nil] at this
        omega
      have hstep := HK.out
      rw [unrulyGo, if_neg hne, decodeL_at] at hstep
      have hwd : 1 ≤ (Utf8.decode s p).2 := by rw [← decodeL_at]; exact Lib.decodeL_width _
      have hle : p + (Utf8.decode s p).2 ≤ s.size := by
        have := Lib.decodeL_le _ hne
        rw [decodeL_at, List.length_drop, bl_length'] at this
        omega
      have hmax : (Utf8.decode s p).1 ≤ 1114111 := by rw [← decodeL_at]; exact Lib.decodeL_rune _
      have hdg := decodeGo_tail s p hlt
      rw [decodeL_at] at hdg
      have hnx : ∀ ty, (Instr.next (.pointer (some ⟨w.heap.size, 0, none⟩)) true ty).run Tryz.prog wr = _ := fun ty => Lib.run_next_any_at (P := Tryz.prog) wr w.heap.size s p ty hit hlt
      have hG' : Gr w (wr.iterAt w.heap.size s (p + (Utf8.decode s p).2)) := hG.iterAt (Nat.le_refl _) s _
      have hit' : (wr.iterAt w.heap.size s (p + (Utf8.decode s p).2)).heap[w.heap.size]? = some (.stringIter s (p + (Utf8.decode s p).2)) := Lib.iterAt_heap wr _ s p _ hit
      obtain ⟨c, hc⟩ : ∃ c, (Utf8.decode s p).1 = c := ⟨_, rfl⟩
      obtain ⟨wd, hwdv⟩ : ∃ c, (Utf8.decode s p).2 = c := ⟨_, rfl⟩
      rw [hc, hwdv] at hstep hnx
      rw [hwdv] at hwd hle hG' hit'
      rw [hc] at hmax
      have hdg1 : (Lib.decodeGo (s.extract p s.size)).1 = c := by rw [hdg, hc]
      have hdg2 : (Lib.decodeGo (s.extract p s.size)).2 = wd := by rw [hdg, hwdv]
      have Hd1 := Lib.hid hdg1
      have Hd2 := Lib.hid hdg2
      have Hit := Lib.hid hit'
      have Hstep := Lib.hid hstep
      clear hc hwdv hdg hdg1 hdg2 hit' hstep HK hit hne
      by_cases hc : c = 65533
      · subst hc
        by_cases hw1 : wd = 1
        · subst hw1
          go_wp2_with fail
          refine (Tryz.utf8_DecodeRuneInString _ _ (hL.grow hG').u8).mono ?_
          rintro e w2 ⟨rfl, hb⟩
          have hG2 : Gr w w2 := hG'.trans hb
          clear hb
          rw [Hd1.out, Hd2.out]
          go_wp2
          go_ret
          have hs := Hstep.out
          rw [if_pos (by simp)] at hs
          exact ⟨by rw [← hs]; rfl, hG2⟩
        · have hwb : ((wd : Int) == 1) = false := beq_eq_false_iff_ne.2 (by omega)
          go_wp2_with fail
          refine (Tryz.utf8_DecodeRuneInString _ _ (hL.grow hG').u8).mono ?_
          rintro e w2 ⟨rfl, hb⟩
          have hG2 : Gr w w2 := hG'.trans hb
          have hit2 := (Gr.below hb).block w.heap.size (Array.getElem?_eq_some_iff.1 Hit.out).1
          rw [Hit.out] at hit2
          have Hit2 := Lib.hid hit2
          clear hb hit2
          rw [Hd1.out, Hd2.out]
          go_wp2
          go_roundg g
          case measure => omega
          case rel =>
            have hs := Hstep.out
            rw [if_neg (by rintro ⟨-, h⟩; exact hw1 h), List.drop_drop] at hs
            exact ⟨hG2, p + wd, hle, by omega, Hit2.out, Lib.hid hs⟩
      · have hcb : ((c : Int) != 65533) = true := bne_iff_ne.2 (by omega)
        go_wp2
        go_roundg g
        case measure => omega
        case rel =>
          have hs := Hstep.out
          rw [if_neg (by rintro ⟨h, -⟩; exact hc h), List.drop_drop] at hs
          exact ⟨hG', p + wd, hle, by omega, Hit.out, Lib.hid hs⟩
    · have hnx : ∀ ty, (Instr.next (.pointer (some ⟨w.heap.size, 0, none⟩)) true ty).run Tryz.prog wr = _ := fun ty => Lib.run_next_end_at (P := Tryz.prog) wr w.heap.size s p ty hit hlt
      have hs := HK.out
      rw [unrulyGo, if_pos (List.drop_of_length_le (by rw [bl_length']; omega))] at hs
      have Hs := Lib.hid hs
      clear hs HK hit
      go_wp2
      go_ret
      exact ⟨by rw [← Hs.out]; rfl, hG⟩
end Go.Proofs.Cuts
