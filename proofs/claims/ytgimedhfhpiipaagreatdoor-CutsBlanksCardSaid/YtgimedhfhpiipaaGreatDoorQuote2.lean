/-
  cuts.quote, its walk. Conditions: the listed variables lie in the world; the text has at most 20000 bytes.
-/
import Derived.Test.YtgimedhfhpiipaaGreatDoorQuote
import Derived.OwnWalk
namespace Go.Proofs.Cuts
open Go.RowKit

theorem bl_drop_ne {s : ByteArray} {p : Nat} (h : p < s.size) : (bl s).drop p ≠ [] := by
  intro e
  have := congrArg List.length e
  rw [List.length_drop, bl_length', List.length_nil] at this
  omega

set_option maxRecDepth 100000 in
set_option maxHeartbeats 4000000 in
theorem quote_any (s : ByteArray) (w : World) (h1 : 1 ≤ s.size) (hs : s.size ≤ 20000) :
    Calls Tryz.prog 56 #[.string s] w fun e w' => e = .returned (.tuple #[.agg #[.int .i64 0, .string (ba (quoteR ((bl s).drop 1)).1), .bool true, .bool (quoteR ((bl s).drop 1)).2.1], .int .i64 (quoteR ((bl s).drop 1)).2.2]) ∧ Gr w w' := by
  obtain ⟨ANS, hANS⟩ : ∃ a, quoteR ((bl s).drop 1) = a := ⟨_, rfl⟩
  rw [hANS]
  obtain ⟨s1, hs1⟩ : ∃ s1, s.extract 1 s.size = s1 := ⟨_, rfl⟩
  have hb1 : bl s1 = (bl s).drop 1 := by rw [← hs1]; exact bl_tail s 1
  have hz : s1.size + 1 = s.size := by
    have := congrArg List.length hb1
    rw [bl_length', List.length_drop, bl_length'] at this
    omega
  rw [← hb1] at hANS
  have HA := Lib.hid hANS
  have Hs1 := Lib.hid hs1
  have Hz := Lib.hid hz
  clear hANS hs1 hb1
  have hs1l : s1.size < 20000 := by omega
  clear hz
  obtain ⟨i0, hi, hz0, hz1, hz2⟩ := info_parts info5
  go_enter Tryz.func56, Tryz.ntmps56
  go_wp2
  rw [Hs1.out]
  go_loopg [5, 6] (s1.size + 1) (fun g v t wx => ∃ (p : Nat) (bad turned : Bool) (out : List UInt8), t = .bool turned ∧ p ≤ s1.size ∧ s1.size - p < g ∧ out.length ≤ 4 * p ∧ QInv w wx s1 p bad v out ∧ Hid (quoteGo g ((bl s1).drop p) p turned bad out = ANS))
  case atStart =>
    refine ⟨0, false, false, [], rfl, by omega, by omega, by simp, ⟨((((Gr.refl w).alloc _).alloc _).alloc _), ?_, ?_, ?_, ?_⟩, Lib.hid (by rw [← HA.out]; unfold quoteR; rw [bl_length']; rfl)⟩
    · exact heap_old (heap_old (heap_new _ _) _) _
    · exact heap_old (heap_new_at (by simp) _) _
    · exact heap_new_at (by simp) _
    · exact ⟨by simp [Lib.byteCells], .inl ⟨rfl, rfl⟩⟩
  case round =>
    obtain ⟨p, bad, turned, out, rfl, hp, hgk, hol, hQ, HK⟩ := hrel
    obtain ⟨g, rfl⟩ : ∃ g, gk = g + 1 := ⟨gk - 1, by omega⟩
    by_cases hlt : p < s1.size
    · have hstep := HK.out
      rw [quoteGo, if_neg (bl_drop_ne hlt), decodeL_at] at hstep
      have hwd : 1 ≤ (Utf8.decode s1 p).2 := by rw [← decodeL_at]; exact Lib.decodeL_width _
      have hle : p + (Utf8.decode s1 p).2 ≤ s1.size := by
        have := Lib.decodeL_le _ (bl_drop_ne hlt)
        rw [decodeL_at, List.length_drop, bl_length'] at this
        omega
      have hmax : (Utf8.decode s1 p).1 ≤ 1114111 := by rw [← decodeL_at]; exact Lib.decodeL_rune _
      have hnx : ∀ ty, (Instr.next (.pointer (some ⟨w.heap.size + 1 + 1, 0, none⟩)) true ty).run Tryz.prog wr = _ := fun ty => Lib.run_next_any_at (P := Tryz.prog) wr (w.heap.size + 1 + 1) s1 p ty hQ.it hlt
      have hQ2 := hQ.iter (p + (Utf8.decode s1 p).2)
      obtain ⟨W, hW⟩ : ∃ W, wr.iterAt (w.heap.size + 1 + 1) s1 (p + (Utf8.decode s1 p).2) = W := ⟨_, rfl⟩
      obtain ⟨c, hc⟩ : ∃ c, (Utf8.decode s1 p).1 = c := ⟨_, rfl⟩
      obtain ⟨wd, hwdv⟩ : ∃ c, (Utf8.decode s1 p).2 = c := ⟨_, rfl⟩
      rw [hW] at hQ2 hnx
      rw [hc, hwdv, List.drop_drop] at hstep
      rw [hc] at hnx hmax
      rw [hwdv] at hwd hle hQ2
      have Hstep := Lib.hid hstep
      clear hW hc hwdv hstep HK hQ
      cases turned with
      | true =>
        have hs2 := Hstep.out
        rw [if_pos rfl] at hs2
        have Hs2 := Lib.hid hs2
        clear hs2 Hstep
        have happ : ∀ (x : UInt8), out.length + 1 = (out ++ [x]).length := fun x => by simp
        by_cases h34 : c = 34
        · subst h34
          go_wp2_with (first | (at_builtin; refine wpList_append_own _ rfl (.tmp 27) (.tmp 30) 160 rfl (w.heap.size + 3) 5 i0 (.int .u8 0) 1 1 Tryz.underlying160 hi hz0 hz1 hz2 rfl (by decide) _ _ _ rfl (hQ2.own.alloc _) ⟨W.heap.size, 0, none⟩ 1 1 [.int .u8 34] rfl rfl ?c1 ?c2 ?c3 ?c4 ?c5 ?_))
          case c2 => first | rfl | (intro u hu; simp at hu; subst hu; rfl)
          case c3 => unfold maxLen; omega
          case c4 => omega
          case c5 => have := hQ2.size; simp; omega
          intro v' w2 hown' hg _
          have hQ3 : QInv w w2 s1 (p + wd) bad v' (out ++ [34]) := hQ2.grown hg (by rw [List.length_append, byteCells_append]; exact hown')
          clear hg hown' hQ2
          go_wp2
          go_roundg g
          case measure => omega
          case rel =>
            have hs2 := Hs2.out
            rw [if_pos (by simp)] at hs2
            exact ⟨p + wd, bad, false, _, rfl, hle, by omega, by rw [List.length_append]; show out.length + 1 ≤ _; omega, hQ3, Lib.hid hs2⟩
        · by_cases h92 : c = 92
          · subst h92
            go_wp2_with (first | (at_builtin; refine wpList_append_own _ rfl (.tmp 27) (.tmp 30) 160 rfl (w.heap.size + 3) 5 i0 (.int .u8 0) 1 1 Tryz.underlying160 hi hz0 hz1 hz2 rfl (by decide) _ _ _ rfl (hQ2.own.alloc _) ⟨W.heap.size, 0, none⟩ 1 1 [.int .u8 92] rfl rfl ?d1 ?d2 ?d3 ?d4 ?d5 ?_))
            case d2 => first | rfl | (intro u hu; simp at hu; subst hu; rfl)
            case d3 => unfold maxLen; omega
            case d4 => omega
            case d5 => have := hQ2.size; simp; omega
            intro v' w2 hown' hg _
            have hQ3 : QInv w w2 s1 (p + wd) bad v' (out ++ [92]) := hQ2.grown hg (by rw [List.length_append, byteCells_append]; exact hown')
            clear hg hown' hQ2
            go_wp2
            go_roundg g
            case measure => omega
            case rel =>
              have hs2 := Hs2.out
              rw [if_pos (by simp)] at hs2
              exact ⟨p + wd, bad, false, _, rfl, hle, by omega, by rw [List.length_append]; show out.length + 1 ≤ _; omega, hQ3, Lib.hid hs2⟩
          · have n34 : ((c : Int) == 34) = false := beq_eq_false_iff_ne.2 (by omega)
            have n92 : ((c : Int) == 92) = false := beq_eq_false_iff_ne.2 (by omega)
            have hne : ¬ (c = 34 ∨ c = 92) := by omega
            have Hne := Lib.hid hne
            clear hne h34 h92
            by_cases h110 : c = 110
            · subst h110
              clear n34 n92
              go_wp2_with (first | (at_builtin; refine wpList_append_own _ rfl (.tmp 34) (.tmp 35) 160 rfl (w.heap.size + 3) 5 i0 (.int .u8 0) 1 1 Tryz.underlying160 hi hz0 hz1 hz2 rfl (by decide) _ _ _ rfl (hQ2.own.alloc _) ⟨W.heap.size, 0, none⟩ 1 1 [.int .u8 10] rfl rfl ?f1 ?f2 ?f3 ?f4 ?f5 ?_))
              case f2 => first | rfl | (intro u hu; simp at hu; subst hu; rfl)
              case f3 => unfold maxLen; omega
              case f4 => omega
              case f5 => have := hQ2.size; simp; omega
              intro v' w2 hown' hg _
              have hQ3 : QInv w w2 s1 (p + wd) bad v' (out ++ [10]) := hQ2.grown hg (by rw [List.length_append, byteCells_append]; exact hown')
              clear hg hown' hQ2
              go_wp2
              go_roundg g
              case measure => omega
              case rel =>
                have hs2 := Hs2.out
                rw [if_neg (by omega), if_pos (by simp)] at hs2
                exact ⟨p + wd, bad, false, _, rfl, hle, by omega, by rw [List.length_append]; show out.length + 1 ≤ _; omega, hQ3, Lib.hid hs2⟩
            · have n110 : ((c : Int) == 110) = false := beq_eq_false_iff_ne.2 (by omega)
              have H110 := Lib.hid h110
              clear h110
              have hb3 : W.cell? ⟨w.heap.size + 1, 3, none⟩ = some (.bool bad) := by simp [World.cell?, hQ2.b1]
              have hf3 : W.frozen? ⟨w.heap.size + 1, 3, none⟩ = false := by simp [World.frozen?, hQ2.b1]
              go_wp2
              go_roundg g
              case measure => omega
              case rel =>
                have hs2 := Hs2.out
                rw [if_neg Hne.out, if_neg H110.out] at hs2
                exact ⟨p + wd, true, false, _, rfl, hle, by omega, by omega, hQ2.setBad, Lib.hid hs2⟩
      | false =>
        have hs2 := Hstep.out
        rw [if_neg (by simp)] at hs2
        have Hs2 := Lib.hid hs2
        clear hs2 Hstep
        by_cases h92 : c = 92
        · subst h92
          go_wp2
          go_roundg g
          case measure => omega
          case rel => 
            have hs2 := Hs2.out
            rw [if_pos (by trivial)] at hs2
            exact ⟨p + wd, bad, true, out, rfl, hle, by omega, by omega, hQ2, Lib.hid hs2⟩
        · by_cases h34 : c = 34
          · subst h34
            have hs2 := Hs2.out
            rw [if_neg (by omega), if_pos (by simp)] at hs2
            have Hs3 := Lib.hid hs2
            clear hs2 Hs2 h92
            have hconv := own_string hQ2.own
            have hB1 := hQ2.b1
            have hB0 := hQ2.b0
            have hG := hQ2.gr
            have k0 : W.cell? ⟨w.heap.size + 1, 0, none⟩ = some (.int .i64 0) := by simp [World.cell?, hB1]
            have k1 : W.cell? ⟨w.heap.size + 1, 1, none⟩ = some (.string ⟨#[]⟩) := by simp [World.cell?, hB1]
            have k2 : W.cell? ⟨w.heap.size + 1, 2, none⟩ = some (.bool true) := by simp [World.cell?, hB1]
            have k3 : W.cell? ⟨w.heap.size + 1, 3, none⟩ = some (.bool bad) := by simp [World.cell?, hB1]
            have kf : ∀ i, W.frozen? ⟨w.heap.size + 1, i, none⟩ = false := fun i => by simp [World.frozen?, hB1]
            have l0 : W.cell? ⟨w.heap.size, 0, none⟩ = some (.int .i64 0) := by simp [World.cell?, hB0]
            have l1 : W.cell? ⟨w.heap.size, 1, none⟩ = some (.string ⟨#[]⟩) := by simp [World.cell?, hB0]
            have l2 : W.cell? ⟨w.heap.size, 2, none⟩ = some (.bool false) := by simp [World.cell?, hB0]
            have l3 : W.cell? ⟨w.heap.size, 3, none⟩ = some (.bool false) := by simp [World.cell?, hB0]
            have lf : ∀ i, W.frozen? ⟨w.heap.size, i, none⟩ = false := fun i => by simp [World.frozen?, hB0]
            clear hB1 hB0 hQ2
            go_wp2
            refine bodyPost_ret (v := .tuple #[.agg #[.int .i64 0, .string (ba out), .bool true, .bool bad], .int .i64 (p + 2)]) (by simp [results, Tryz.results56, go_sem, l0, l1, l2, l3]) rfl ⟨?_, ?_⟩
            · rw [← Hs3.out]; rfl
            · repeat (first | assumption | refine Gr.set ?_ (by simp) _)
          · have n92 : ((c : Int) == 92) = false := beq_eq_false_iff_ne.2 (by omega)
            have n34 : ((c : Int) == 34) = false := beq_eq_false_iff_ne.2 (by omega)
            have Hn := Lib.hid (And.intro h92 h34)
            clear h92 h34
            go_wp2_with fail
            refine (Tryz.utf8_AppendRune_plain (w.heap.size + 3) _ out.length (Lib.byteCells out) c (by omega) (by omega) _ hQ2.own (by omega) hQ2.size).mono ?_
            rintro e w2 ⟨v', rfl, hown', o, hg⟩
            rw [Lib.runeCells_length, ← Lib.byteCells_encodeRune, ← byteCells_append, ← List.length_append] at hown'
            have hQ3 := hQ2.grown hg hown'
            clear hg hown'
            go_wp2
            go_roundg g
            case measure => omega
            case rel =>
              have hs2 := Hs2.out
              rw [if_neg Hn.out.1, if_neg Hn.out.2] at hs2
              have h4 : (Lib.encodeRune (c : Int)).length ≤ 4 := by
                have := (Lib.encodeRuneZ_length (c : Int)).2
                have h2 := Lib.runeCells_length (c : Int)
                unfold Lib.runeCells at h2
                rw [List.length_map] at h2
                omega
              exact ⟨p + wd, bad, false, _, rfl, hle, by omega, by rw [List.length_append]; omega, hQ3, Lib.hid hs2⟩
    · have hnx : ∀ ty, (Instr.next (.pointer (some ⟨w.heap.size + 1 + 1, 0, none⟩)) true ty).run Tryz.prog wr = _ := fun ty => Lib.run_next_end_at (P := Tryz.prog) wr (w.heap.size + 1 + 1) s1 p ty hQ.it hlt
      have hs := HK.out
      rw [quoteGo, if_pos (List.drop_of_length_le (by rw [bl_length']; omega))] at hs
      have Hs := Lib.hid hs
      clear hs HK
      have hps : p + 1 = s.size := by have := Hz.out; omega
      have Hps := Lib.hid hps
      clear hps
      have hB0 := hQ.b0
      have hG := hQ.gr
      have l0 : wr.cell? ⟨w.heap.size, 0, none⟩ = some (.int .i64 0) := by simp [World.cell?, hB0]
      have l1 : wr.cell? ⟨w.heap.size, 1, none⟩ = some (.string ⟨#[]⟩) := by simp [World.cell?, hB0]
      have l2 : wr.cell? ⟨w.heap.size, 2, none⟩ = some (.bool false) := by simp [World.cell?, hB0]
      have l3 : wr.cell? ⟨w.heap.size, 3, none⟩ = some (.bool false) := by simp [World.cell?, hB0]
      have lf : ∀ i, wr.frozen? ⟨w.heap.size, i, none⟩ = false := fun i => by simp [World.frozen?, hB0]
      clear hB0 hQ
      go_wp2
      refine bodyPost_ret (v := .tuple #[.agg #[.int .i64 0, .string ⟨#[]⟩, .bool true, .bool true], .int .i64 s.size]) (by simp [results, Tryz.results56, go_sem, l0, l1, l2, l3]) rfl ⟨?_, ?_⟩
      · rw [← Hs.out, ← Hps.out]; rfl
      · repeat (first | assumption | refine Gr.set ?_ (by simp) _)
end Go.Proofs.Cuts
