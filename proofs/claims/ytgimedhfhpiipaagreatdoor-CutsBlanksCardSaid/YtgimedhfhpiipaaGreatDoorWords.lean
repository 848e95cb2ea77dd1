/-
  cuts.words cuts a line into its words. Conditions: the two places lie in the text, which has at most 20000 bytes.
-/
import Derived.Test.YtgimedhfhpiipaaGreatDoorQuote2
import Derived.Laws.DeepStrings4
namespace Go.Proofs.Cuts
open Go.RowKit

theorem info114 : (Tryz.prog.info? 114).map (fun i => (i.zero, i.size, i.bytes)) = some (some (.agg #[.int .i64 0, .string ⟨#[]⟩, .bool false, .bool false]), 4, 32) := by kernel_rfl
def wdCell (w : Wd) : List Value := [.int .i64 w.at_, .string w.s, .bool w.text, .bool w.bad]
def wdCells (l : List Wd) : List Value := l.flatMap wdCell
theorem wdCells_append (a b : List Wd) : wdCells (a ++ b) = wdCells a ++ wdCells b := by simp [wdCells]
theorem wdCells_one (w : Wd) : wdCells [w] = wdCell w := by simp [wdCells]

theorem quoteGo_le : ∀ (f : Nat) (l : List UInt8) (k : Nat) (turned bad : Bool) (out : List UInt8), 1 ≤ (quoteGo f l k turned bad out).2.2 ∧ (quoteGo f l k turned bad out).2.2 ≤ k + l.length + 1
  | 0, l, k, _, _, _ => by simp only [quoteGo]; omega
  | f + 1, l, k, turned, bad, out => by
    unfold quoteGo
    by_cases hne : l = []
    · rw [if_pos hne]; simp only; omega
    · rw [if_neg hne]
      have h1 := Lib.decodeL_width l
      have h2 := Lib.decodeL_le l hne
      have hl : (l.drop (Lib.decodeL l).2).length = l.length - (Lib.decodeL l).2 := List.length_drop ..
      have ih := fun t b o => quoteGo_le f (l.drop (Lib.decodeL l).2) (k + (Lib.decodeL l).2) t b o
      simp only
      repeat' split
      all_goals first
        | (refine ⟨(ih _ _ _).1, Nat.le_trans (ih _ _ _).2 ?_⟩; omega)
        | (simp only; omega)
theorem quoteR_le (l : List UInt8) : 1 ≤ (quoteR l).2.2 ∧ (quoteR l).2.2 ≤ l.length + 1 := by
  have := quoteGo_le (l.length + 1) l 0 false false []
  unfold quoteR
  omega
theorem plainLen_le : ∀ l : List UInt8, plainLen l ≤ l.length
  | [] => by simp [plainLen]
  | c :: t => by
    rw [plainLen_cons]
    have := plainLen_le t
    split
    · omega
    · simp only [List.length_cons]; omega

/-- The bytes of a text between two places. -/
theorem bl_extract (s : ByteArray) (a b : Nat) : bl (s.extract a b) = ((bl s).take b).drop a := by
  simp only [bl, ByteArray.data_extract, Array.toList_extract, List.extract]
  rw [List.drop_take]
theorem ba_bl (s : ByteArray) : ba (bl s) = s := by simp [ba, bl]
theorem extract_ba (s : ByteArray) (a b : Nat) : s.extract a b = ba (((bl s).take b).drop a) := by
  rw [← bl_extract, ba_bl]

theorem cells_new {w : World} {k : Nat} (hk : k = w.heap.size) (xs : Array Value) (T : TypeId) (j : Nat) (u : Value) (h : xs.toList[j]? = some u) : (w.alloc (.cells xs T)).cell? ((⟨k, 0, none⟩ : Addr).add j) = some u := by
  subst hk
  have : (⟨w.heap.size, 0, none⟩ : Addr).add j = ⟨w.heap.size, j, none⟩ := by unfold Addr.add; split <;> simp_all
  rw [this, World.cell?_alloc_new, ← Array.getElem?_toList, h]

/-- A text cut between two places that lie in it. -/
theorem run_cut (s : ByteArray) (a b : Nat) (i j : Int) (hi : i = a) (hj : j = b) (hab : a ≤ b) (hb : b ≤ s.size) (w : World) : (Instr.slice 9 (.string s) (some (.int .i64 i)) (some (.int .i64 j)) none).run Tryz.prog w = .ok (.string (s.extract a b)) w := by
  subst hi hj
  rw [run_slice_string_if _ _ _ _ _ _ _ Tryz.underlying9, if_pos (by omega), if_pos (by omega)]
  simp

/-- What the call owns stays so while the world only grows. -/
theorem own_gr {w w' : World} {B : Nat} {e : TypeId} {size n : Nat} {v : Value} {xs : List Value} (h : w.ownsRow B e size v n xs) (g : Gr w w') : w'.ownsRow B e size v n xs := by
  refine ⟨h.1, ?_⟩
  rcases h.2 with hn | ⟨b, cap, cur, hv, hb, hg, rest⟩
  · exact .inl hn
  · exact .inr ⟨b, cap, cur, hv, hb, (g.below.block b (Array.getElem?_eq_some_iff.1 hg).1).trans hg, rest⟩

set_option maxRecDepth 100000 in
set_option maxHeartbeats 4000000 in
theorem words_any (s : ByteArray) (a b : Nat) (w : World) (hab : a ≤ b) (hb : b ≤ s.size) (hs : s.size ≤ 20000) :
    Calls Tryz.prog 26 #[.string s, .int .i64 a, .int .i64 b] w fun e w' => (∃ v, e = .returned (.tuple #[v, .int .i64 (words (((bl s).take b).drop a) a).2]) ∧ w'.ownsRow w.heap.size 114 4 v (words (((bl s).take b).drop a) a).1.length (wdCells (words (((bl s).take b).drop a) a).1)) ∧ Gr w w' := by
  obtain ⟨L, hL⟩ : ∃ L, (bl s).take b = L := ⟨_, rfl⟩
  have hLl : L.length = b := by rw [← hL, List.length_take, bl_length']; omega
  rw [hL]
  obtain ⟨ANS, hANS⟩ : ∃ x, words (L.drop a) a = x := ⟨_, rfl⟩
  rw [hANS]
  unfold words at hANS
  rw [List.length_drop, hLl] at hANS
  have HA := Lib.hid hANS
  have HL := Lib.hid hL
  have HLl := Lib.hid hLl
  clear hANS hL hLl
  obtain ⟨i0, hi, hz0, hz1, hz2⟩ := info_parts info114
  go_enter Tryz.func26, Tryz.ntmps26
  go_wp2
  go_loopg [1, 8] (b - a + 1) (fun g x v wx => Gr w wx ∧ ∃ (k : Nat) (acc : List Wd), x = .int .i64 k ∧ k ≤ b ∧ b - k < g ∧ acc.length ≤ k ∧ wx.ownsRow w.heap.size 114 4 v acc.length (wdCells acc) ∧ Hid (acc ++ (wordsGo g (L.drop k) k).1 = ANS.1 ∧ (wordsGo g (L.drop k) k).2 = ANS.2))
  case atStart => exact ⟨Gr.refl _, a, [], rfl, hab, by omega, by simp, ⟨by simp [wdCells], .inl ⟨rfl, rfl⟩⟩, Lib.hid (by rw [HA.out]; exact ⟨rfl, rfl⟩)⟩
  case round =>
    obtain ⟨hG, k, acc, rfl, hkb, hgk, hacc, hown, HK⟩ := hrel
    obtain ⟨g, rfl⟩ : ∃ g, gk = g + 1 := ⟨gk - 1, by omega⟩
    by_cases hlt : k < b
    · obtain ⟨c, t, hct⟩ : ∃ c t, L.drop k = c :: t := by
        cases h : L.drop k with
        | nil => have := congrArg List.length h; rw [List.length_drop, HLl.out, List.length_nil] at this; omega
        | cons c t => exact ⟨c, t, rfl⟩
      have htl : t.length + 1 = b - k := by
        have := congrArg List.length hct
        rw [List.length_drop, HLl.out, List.length_cons] at this
        omega
      have hstep := HK.out
      rw [hct, wordsGo] at hstep
      simp only at hstep
      have hsk : k < s.size := by omega
      have hc : s[k]'hsk = c := by
        have h0 := congrArg (fun l => l[0]?) hct
        simp only [List.getElem?_drop, List.getElem?_cons_zero] at h0
        rw [← HL.out, List.getElem?_take] at h0
        rw [if_pos (by omega)] at h0
        have h2 : (bl s)[k]? = some (s[k]'hsk) := by
          rw [List.getElem?_eq_getElem (by rw [bl_length']; exact hsk)]
          congr 1
        rw [Nat.add_zero, h2] at h0
        exact Option.some.inj h0
      have hdrop1 : L.drop (k + 1) = t := by rw [← List.drop_drop, hct]; rfl
      have Hct := Lib.hid hct
      have Hd1 := Lib.hid hdrop1
      have Htl := Lib.hid htl
      have Hst := Lib.hid hstep
      obtain ⟨x, hx⟩ : ∃ x : Nat, c.toNat = x := ⟨_, rfl⟩
      have hcx : (s[k]'hsk).toNat = x := by rw [hc, hx]
      have hx256 : x < 256 := by rw [← hx]; exact c.toNat_lt
      have Hx := Lib.hid hx
      clear hct hdrop1 htl hstep hc hx HK
      have byte : ∀ n : Nat, n < 256 → c.toNat = n → c = UInt8.ofNat n := fun n hn h => by
        apply UInt8.toNat_inj.1; rw [h]; simp; omega
      have Hbyte := Lib.hid byte
      clear byte
      by_cases hws : x = 32 ∨ x = 9
      · have hcw : c = 32 ∨ c = 9 := by
          rcases hws with h | h
          · exact .inl (Hbyte.out 32 (by omega) (Hx.out.trans h))
          · exact .inr (Hbyte.out 9 (by omega) (Hx.out.trans h))
        have Hcw := Lib.hid hcw
        clear hcw
        rcases hws with h | h
        all_goals
          subst h
          go_wp2
          go_roundg g
          case measure => omega
          case rel =>
            have hs2 := Hst.out
            rw [if_pos Hcw.out] at hs2
            exact ⟨hG, k + 1, acc, by go_num, by omega, by omega, by omega, hown, Lib.hid (by rw [Hd1.out]; exact hs2)⟩
      · have n32 : ((x : Int) == 32) = false := beq_eq_false_iff_ne.2 (by omega)
        have n9 : ((x : Int) == 9) = false := beq_eq_false_iff_ne.2 (by omega)
        have hncw : ¬ (c = 32 ∨ c = 9) := by
          have hx' := Hx.out
          rintro (h | h)
          · rw [h] at hx'; exact hws (.inl hx'.symm)
          · rw [h] at hx'; exact hws (.inr hx'.symm)
        have hs2 := Hst.out
        rw [if_neg hncw] at hs2
        have Hs2 := Lib.hid hs2
        have Hncw := Lib.hid hncw
        clear hs2 hncw hws Hst
        by_cases h35 : x = 35
        · subst h35
          have hc35 : c = 35 := Hbyte.out 35 (by omega) Hx.out
          have hs3 := Hs2.out
          rw [if_pos hc35] at hs3
          have Hs3 := Lib.hid hs3
          clear hs3 hc35 n32 n9
          go_wp2
          go_ret2
          refine ⟨⟨_, by rw [← Hs3.out.2]; rfl, ?_⟩, hG⟩
          rw [← Hs3.out.1]
          simpa using hown
        · have n35 : ((x : Int) == 35) = false := beq_eq_false_iff_ne.2 (by omega)
          have hnc35 : ¬ c = 35 := by
            intro h
            have hx' := Hx.out
            rw [h] at hx'; exact h35 hx'.symm
          have hs3 := Hs2.out
          rw [if_neg hnc35] at hs3
          have Hs3 := Lib.hid hs3
          clear hs3 hnc35 h35 Hs2
          by_cases h34 : x = 34
          · subst h34
            have hc34 : c = 34 := Hbyte.out 34 (by omega) Hx.out
            have hs4 := Hs3.out
            rw [if_pos hc34] at hs4
            have hq := quote_any (s.extract k b) wr (by rw [ByteArray.size_extract]; omega) (by rw [ByteArray.size_extract]; omega)
            have hqt : (bl (s.extract k b)).drop 1 = t := by rw [bl_extract, HL.out, Hct.out]; rfl
            rw [hqt] at hq
            have hqn := quoteR_le t
            obtain ⟨Q, hQ⟩ : ∃ Q, quoteR t = Q := ⟨_, rfl⟩
            rw [hQ] at hq hqn hs4
            clear hQ
            obtain ⟨qb, qbad, qn⟩ := Q
            simp only at hq hqn hs4
            have Hq := Lib.hid hq
            have Hs4 := Lib.hid hs4
            clear hq hs4 hc34 hqt n32 n9 n35
            have hqn2 : k + qn ≤ b := by have := Htl.out; omega
            go_wp2_with fail
            refine Hq.out.mono ?_
            rintro e w2 ⟨rfl, hg2⟩
            have hown2 := own_gr hown hg2
            go_wp2_with (first | (at_builtin; refine wpList_append_own _ rfl (.tmp 63) (.tmp 65) 62 rfl w.heap.size 114 i0 (.agg #[.int .i64 0, .string ⟨#[]⟩, .bool false, .bool false]) 4 32 Tryz.underlying62 hi hz0 hz1 hz2 rfl (by decide) _ _ _ rfl ((hown2.alloc _).alloc _) ⟨w2.heap.size + 1, 0, none⟩ 1 1 [.int .i64 k, .string (ba qb), .bool true, .bool qbad] rfl rfl ?c1 ?c2 ?c3 ?c4 ?c5 ?_))
            case c1 => intro j u hj; exact cells_new (by simp) _ _ j u hj
            case c2 => intro u hu; simp at hu; rcases hu with rfl | rfl | rfl | rfl <;> rfl
            case c3 => unfold maxLen; omega
            case c4 => omega
            case c5 => have := hG.size; have := hg2.size; simp; omega
            intro v' w3 hown3 hg3 _
            have hG3 : Gr w w3 := (((hG.trans hg2).alloc _).alloc _).grown hg3 (fun j hj => (own_ge hown2 j hj).1)
            have hown3' : w3.ownsRow w.heap.size 114 4 v' (acc ++ [(⟨k, ba qb, true, qbad⟩ : Wd)]).length (wdCells (acc ++ [(⟨k, ba qb, true, qbad⟩ : Wd)])) := by
              rw [wdCells_append, wdCells_one, List.length_append]; exact hown3
            clear hg3 hown3 hown2 hown
            go_wp2
            go_roundg g
            case measure => omega
            case rel =>
              have hs4 := Hs4.out
              refine ⟨hG3, k + qn, acc ++ [(⟨k, ba qb, true, qbad⟩ : Wd)], by go_num, hqn2, by omega, by rw [List.length_append]; show acc.length + 1 ≤ _; omega, hown3', Lib.hid ?_⟩
              rw [← Hct.out, List.drop_drop] at hs4
              exact ⟨by rw [← hs4.1, List.append_assoc]; rfl, hs4.2⟩
          · have n34 : ((x : Int) == 34) = false := beq_eq_false_iff_ne.2 (by omega)
            have hnc34 : ¬ c = 34 := by
              intro h
              have hx' := Hx.out
              rw [h] at hx'; exact h34 hx'.symm
            have hs4 := Hs3.out
            rw [if_neg hnc34] at hs4
            have hpl := plainLen_le (L.drop k)
            have hp1 : 1 ≤ plainLen (L.drop k) := by rw [Hct.out, plainLen_cons, if_neg Hncw.out]; omega
            rw [← Hct.out] at hs4
            rw [List.length_drop, HLl.out] at hpl
            have hia := indexAny_any (s.extract k b) wr (by rw [ByteArray.size_extract]; omega)
            rw [bl_extract, HL.out] at hia
            obtain ⟨N, hN⟩ : ∃ N, plainLen (L.drop k) = N := ⟨_, rfl⟩
            have hwi : wsIdx (L.drop k) = (if N < b - k then (N : Int) else -1) := by unfold wsIdx; rw [hN, List.length_drop, HLl.out]
            rw [hN] at hpl hp1 hs4
            have hword : s.extract k (k + N) = ba ((L.drop k).take N) := by
              rw [extract_ba, ← HL.out, List.drop_take, List.drop_take, List.take_take]
              congr 2
              omega
            have Hia := Lib.hid hia
            have Hs4 := Lib.hid hs4
            have Hword := Lib.hid hword
            have Hwi := Lib.hid hwi
            clear hia hs4 hword hwi hN hnc34 h34 Hs3
            by_cases hN2 : N < b - k
            · go_wp2_with fail
              refine Hia.out.mono ?_
              rintro e w2 ⟨rfl, hg2⟩
              rw [Hwi.out, if_pos hN2]
              have hown2 := own_gr hown hg2
              have hsl : ∀ w, (Instr.slice 9 (.string s) (some (.int .i64 (k : Int))) (some (.int .i64 ((k : Int) + (N : Int)))) none).run Tryz.prog w = .ok (.string (ba ((L.drop k).take N))) w := fun w => by
                rw [← Hword.out]; exact run_cut s k (k + N) _ _ rfl (by simp) (by omega) (by omega) w
              go_wp2_with (first | (at_builtin; refine wpList_append_own _ rfl (.tmp 28) (.tmp 37) 62 rfl w.heap.size 114 i0 (.agg #[.int .i64 0, .string ⟨#[]⟩, .bool false, .bool false]) 4 32 Tryz.underlying62 hi hz0 hz1 hz2 rfl (by decide) _ _ _ rfl (hown2.alloc _) ⟨w2.heap.size, 0, none⟩ 1 1 [.int .i64 k, .string (ba ((L.drop k).take N)), .bool false, .bool false] rfl rfl ?d1 ?d2 ?d3 ?d4 ?d5 ?_))
              case d1 => intro j u hj; exact cells_new rfl _ _ j u hj
              case d2 => intro u hu; simp at hu; rcases hu with rfl | rfl | rfl <;> rfl
              case d3 => unfold maxLen; omega
              case d4 => omega
              case d5 => have := hG.size; have := hg2.size; simp; omega
              intro v' w3 hown3 hg3 _
              have hG3 : Gr w w3 := ((hG.trans hg2).alloc _).grown hg3 (fun j hj => (own_ge hown2 j hj).1)
              have hown3' : w3.ownsRow w.heap.size 114 4 v' (acc ++ [(⟨k, ba ((L.drop k).take N), false, false⟩ : Wd)]).length (wdCells (acc ++ [(⟨k, ba ((L.drop k).take N), false, false⟩ : Wd)])) := by
                rw [wdCells_append, wdCells_one, List.length_append]; exact hown3
              clear hg3 hown3 hown2 hown hsl
              go_wp2
              go_roundg g
              case measure => omega
              case rel =>
                have hs4 := Hs4.out
                refine ⟨hG3, k + N, acc ++ [(⟨k, ba ((L.drop k).take N), false, false⟩ : Wd)], by go_num, by omega, by omega, by rw [List.length_append]; show acc.length + 1 ≤ _; omega, hown3', Lib.hid ?_⟩
                rw [List.drop_drop] at hs4
                exact ⟨by rw [← hs4.1, List.append_assoc]; rfl, hs4.2⟩
            · have hNb : N = b - k := by omega
              have hbk : ((b : Int) - (k : Int)) = (N : Int) := by omega
              have Hbk := Lib.hid hbk
              clear hbk
              go_wp2_with fail
              refine Hia.out.mono ?_
              rintro e w2 ⟨rfl, hg2⟩
              rw [Hwi.out, if_neg hN2]
              have hown2 := own_gr hown hg2
              have HNb := Lib.hid hNb
              have HN2 := Lib.hid hN2
              clear hNb hN2
              have hbn : (b : Int) - (k : Int) = (N : Int) := Hbk.out
              have hsl : ∀ w, (Instr.slice 9 (.string s) (some (.int .i64 (k : Int))) (some (.int .i64 ((k : Int) + (N : Int)))) none).run Tryz.prog w = .ok (.string (ba ((L.drop k).take N))) w := fun w => by
                rw [← Hword.out]; exact run_cut s k (k + N) _ _ rfl (by simp) (by omega) (by omega) w
              go_wp2_with (first | (at_builtin; refine wpList_append_own _ rfl (.tmp 28) (.tmp 37) 62 rfl w.heap.size 114 i0 (.agg #[.int .i64 0, .string ⟨#[]⟩, .bool false, .bool false]) 4 32 Tryz.underlying62 hi hz0 hz1 hz2 rfl (by decide) _ _ _ rfl (hown2.alloc _) ⟨w2.heap.size, 0, none⟩ 1 1 [.int .i64 k, .string (ba ((L.drop k).take N)), .bool false, .bool false] rfl rfl ?f1 ?f2 ?f3 ?f4 ?f5 ?_))
              case f1 => intro j u hj; exact cells_new rfl _ _ j u hj
              case f2 => intro u hu; simp at hu; rcases hu with rfl | rfl | rfl <;> rfl
              case f3 => unfold maxLen; omega
              case f4 => omega
              case f5 => have := hG.size; have := hg2.size; simp; omega
              intro v' w3 hown3 hg3 _
              have hG3 : Gr w w3 := ((hG.trans hg2).alloc _).grown hg3 (fun j hj => (own_ge hown2 j hj).1)
              have hown3' : w3.ownsRow w.heap.size 114 4 v' (acc ++ [(⟨k, ba ((L.drop k).take N), false, false⟩ : Wd)]).length (wdCells (acc ++ [(⟨k, ba ((L.drop k).take N), false, false⟩ : Wd)])) := by
                rw [wdCells_append, wdCells_one, List.length_append]; exact hown3
              clear hg3 hown3 hown2 hown hsl
              go_wp2
              go_roundg g
              case measure => omega
              case rel =>
                have hs4 := Hs4.out
                refine ⟨hG3, k + N, acc ++ [(⟨k, ba ((L.drop k).take N), false, false⟩ : Wd)], by go_num, by omega, by omega, by rw [List.length_append]; show acc.length + 1 ≤ _; omega, hown3', Lib.hid ?_⟩
                rw [List.drop_drop] at hs4
                exact ⟨by rw [← hs4.1, List.append_assoc]; rfl, hs4.2⟩
    · have hk : k = b := by omega
      have hs2 := HK.out
      rw [List.drop_of_length_le (by rw [HLl.out]; omega), wordsGo] at hs2
      have Hs2 := Lib.hid hs2
      have Hk := Lib.hid hk
      clear hs2 HK hk
      go_wp2
      go_ret2
      refine ⟨⟨_, by rw [← Hs2.out.2, Hk.out]; rfl, ?_⟩, hG⟩
      rw [← Hs2.out.1]
      simpa using hown
end Go.Proofs.Cuts
