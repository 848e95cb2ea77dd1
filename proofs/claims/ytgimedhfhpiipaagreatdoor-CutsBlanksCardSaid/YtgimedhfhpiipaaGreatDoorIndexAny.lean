/-
  strings.IndexAny of any text at a blank and a tab: the place of the first of them, or -1. Conditions: the text is shorter than 4294967281 bytes.
-/
import Derived.Test.YtgimedhfhpiipaaGreatDoorUnruly
import Derived.Laws.Runes
import Derived.WalkMore
import Derived.Deep.DeepMust
namespace Go.Proofs.Cuts
open Go.RowKit

set_option maxRecDepth 100000 in
set_option maxHeartbeats 1000000 in
theorem indexRune_err (w : World) : Calls Tryz.prog 94 #[.string ⟨#[32, 9]⟩, .int .i32 65533] w fun e w' => e = .returned (.int .i64 (-1)) ∧ Gr w w' := by
  have n0 : ∀ w ty, (Instr.next (.pointer (some ⟨World.heap w |>.size, 0, none⟩)) true ty).run Tryz.prog (w.iter ⟨#[32, 9]⟩ 0) = .ok (.tuple #[.bool true, .int .i64 (0 : Nat), .int .i32 (32 : Nat)]) (w.iter ⟨#[32, 9]⟩ 1) := fun w ty => run_next_ascii (P := Tryz.prog) w ⟨#[32, 9]⟩ 0 ty (by decide) (by decide)
  have n1 : ∀ w ty, (Instr.next (.pointer (some ⟨World.heap w |>.size, 0, none⟩)) true ty).run Tryz.prog (w.iter ⟨#[32, 9]⟩ 1) = .ok (.tuple #[.bool true, .int .i64 (1 : Nat), .int .i32 (9 : Nat)]) (w.iter ⟨#[32, 9]⟩ 2) := fun w ty => run_next_ascii (P := Tryz.prog) w ⟨#[32, 9]⟩ 1 ty (by decide) (by decide)
  have n2 : ∀ w ty, (Instr.next (.pointer (some ⟨World.heap w |>.size, 0, none⟩)) true ty).run Tryz.prog (w.iter ⟨#[32, 9]⟩ 2) = .ok (.tuple #[.bool false]) (w.iter ⟨#[32, 9]⟩ 2) := fun w ty => run_next_end (P := Tryz.prog) w ⟨#[32, 9]⟩ 2 ty (by decide)
  go_enter Tryz.func94, Tryz.ntmps94
  go_wp2
  refine wp_loop_rounds 3 ?_
  rw [rounds_succ]
  go_wp2
  rw [rounds_succ]
  go_wp2
  rw [rounds_succ]
  go_wp2
  go_ret
  exact ⟨rfl, (Gr.refl _).alloc _⟩

/-- A rune beyond ASCII, as bytes: two to four, the last one from 128 on. -/
theorem encode_high (c : Nat) (h : 128 ≤ c) : (∃ x y : UInt8, Utf8.encode (c : Int) = ⟨#[x, y]⟩ ∧ 128 ≤ y.toNat) ∨ ∃ rs : ByteArray, Utf8.encode (c : Int) = rs ∧ 3 ≤ rs.size ∧ rs.size ≤ 4 := by
  obtain ⟨d, hd⟩ : ∃ d, (if Utf8.valid (c : Int) = true then (c : Int).toNat else Utf8.runeError) = d := ⟨_, rfl⟩
  have hd1 : 128 ≤ d := by
    rw [← hd]; split
    · simpa using h
    · unfold Utf8.runeError; omega
  have hb : ∀ n : Nat, 128 ≤ (UInt8.ofNat (0x80 + n % 64)).toNat := by
    intro n
    have : (UInt8.ofNat (0x80 + n % 64)).toNat = 0x80 + n % 64 := by simp; omega
    omega
  have e : Utf8.encode (c : Int) = (if d < 0x80 then ⟨#[UInt8.ofNat d]⟩
    else if d < 0x800 then ⟨#[UInt8.ofNat (0xC0 + d / 64), UInt8.ofNat (0x80 + d % 64)]⟩
    else if d < 0x10000 then ⟨#[UInt8.ofNat (0xE0 + d / 4096), UInt8.ofNat (0x80 + d / 64 % 64), UInt8.ofNat (0x80 + d % 64)]⟩
    else ⟨#[UInt8.ofNat (0xF0 + d / 262144), UInt8.ofNat (0x80 + d / 4096 % 64), UInt8.ofNat (0x80 + d / 64 % 64), UInt8.ofNat (0x80 + d % 64)]⟩) := by
    rw [← hd]; rfl
  rw [if_neg (by omega)] at e
  by_cases h1 : d < 0x800
  · rw [if_pos h1] at e
    exact .inl ⟨_, _, e, hb d⟩
  · rw [if_neg h1] at e
    by_cases h2 : d < 0x10000
    · rw [if_pos h2] at e
      exact .inr ⟨_, e, by show 3 ≤ 3; omega, by show 3 ≤ 4; omega⟩
    · rw [if_neg h2] at e
      exact .inr ⟨_, e, by show 3 ≤ 4; omega, by show 4 ≤ 4; omega⟩

set_option maxRecDepth 100000 in
set_option maxHeartbeats 1000000 in
theorem indexRune_high (c : Nat) (h0 : 128 ≤ c) (h1 : c ≤ 1114111) (h2 : c ≠ 65533) (w : World) : Calls Tryz.prog 94 #[.string ⟨#[32, 9]⟩, .int .i32 c] w fun e w' => e = .returned (.int .i64 (-1)) ∧ Gr w w' := by
  have hen := encode_high c h0
  have n1 : ((c : Int) == 65533) = false := beq_eq_false_iff_ne.2 (by omega)
  have n2 : decide ((c : Int) < 128) = false := decide_eq_false (by omega)
  clear h2 h1
  obtain ⟨v, hv⟩ : ∃ v, Lib.validRune (c : Int) = v := ⟨_, rfl⟩
  cases v with
  | false =>
    have Hv := Lib.hid hv
    clear hv hen
    go_enter Tryz.func94, Tryz.ntmps94
    go_wp2_with fail
    refine (Tryz.utf8_ValidRune _ _).mono ?_
    rintro e w' ⟨rfl, rfl⟩
    rw [Hv.out]
    go_wp2
    go_ret
    exact ⟨rfl, Gr.refl _⟩
  | true =>
    have Hv := Lib.hid hv
    clear hv
    rcases hen with ⟨x, y, he, hy⟩ | ⟨rs, hrs, hs2, hs4⟩
    · have hconv : ∀ w, (convert 21 9 (.int .i32 (c : Int))).run Tryz.prog w = .ok (.string ⟨#[x, y]⟩) w := fun w => by rw [← he]; simp [go_sem]
      have Hrs := Lib.hid he
      clear he
      have hyl : y.toNat < 256 := y.toNat_lt
      have hib : Lib.indexByte (ByteArray.extract ⟨#[32, 9]⟩ 2 2).data.toList ((y.toNat : Int)).toNat.toUInt8 = -1 := by
        simp [Lib.indexByte]
      have hne : ((9 : Int) != (y.toNat : Int)) = true := bne_iff_ne.2 (by omega)
      go_enter Tryz.func94, Tryz.ntmps94
      go_wp2_with fail
      refine (Tryz.utf8_ValidRune _ _).mono ?_
      rintro e w' ⟨rfl, rfl⟩
      rw [Hv.out]
      go_wp2
      go_step3
      go_wp2
      refine wp_loop_rounds 1 ?_
      rw [rounds_succ]
      go_wp2
      go_step3
      go_wp2
      go_quiet (fail)
      have ht : ((((⟨#[32, 9]⟩ : ByteArray)[1]'(by decide)).toNat : Int) != (((⟨#[x, y]⟩ : ByteArray)[1]'(by show 1 < 2; omega)).toNat : Int)) = true := hne
      rw [ht]
      clear hconv hib ht hne
      go_wp2_with fail
      have hw2 : IntKind.i64.wrap 2 = 2 := IntWalk.i64_in _ (by omega)
      obtain ⟨w3, hw3⟩ : ∃ w3, w'.drewN nq = w3 := ⟨_, rfl⟩
      have hg3 : Gr w' w3 := by rw [← hw3]; exact (Gr.refl _).drewN _
      rw [hw3]
      clear hw3
      go_quiet ((go_at_call 25; refine Calls.quiet_of_same (Tryz.strings_IndexByte _ _ _)))
      have hib : Lib.indexByte ByteArray.empty.data.toList ((((⟨#[x, y]⟩ : ByteArray)[1]'(by show 1 < 2; omega)).toNat : Int)).toNat.toUInt8 = -1 := rfl
      rw [hib]
      clear hib
      go_wp2
      rw [Exit.noGoto_ret]
      go_wp2
      first | go_ret | (rw [Exit.noGoto_ret]; go_ret)
      exact ⟨rfl, hg3.drewN _⟩
    · have hconv : ∀ w, (convert 21 9 (.int .i32 (c : Int))).run Tryz.prog w = .ok (.string rs) w := fun w => by rw [← hrs]; simp [go_sem]
      have Hrs := Lib.hid hrs
      clear hrs
      go_enter Tryz.func94, Tryz.ntmps94
      go_wp2_with fail
      refine (Tryz.utf8_ValidRune _ _).mono ?_
      rintro e w' ⟨rfl, rfl⟩
      rw [Hv.out]
      go_wp2
      go_step3
      go_wp2_with fail
      have hlt : decide ((rs.size : Int) - 1 < 2) = false := decide_eq_false (by omega)
      clear hs2 hs4 hconv
      refine wp_loop_rounds 1 ?_
      rw [rounds_succ]
      go_wp2_with fail
      rw [Exit.noGoto_ret]
      go_ret
      exact ⟨rfl, Gr.refl _⟩

/-! ### IndexAny at a blank and a tab -/
def wsIdx (l : List UInt8) : Int := if plainLen l < l.length then (plainLen l : Int) else -1
theorem plainLen_cons (c : UInt8) (t : List UInt8) : plainLen (c :: t) = if c = 32 ∨ c = 9 then 0 else plainLen t + 1 := by
  unfold plainLen
  by_cases h : c = 32 ∨ c = 9
  · rw [if_pos h, List.takeWhile_cons]
    rcases h with h | h <;> simp [h]
  · rw [if_neg h, List.takeWhile_cons]
    have h1 : (c == 32) = false := beq_eq_false_iff_ne.2 fun e => h (.inl e)
    have h2 : (c == 9) = false := beq_eq_false_iff_ne.2 fun e => h (.inr e)
    simp [h1, h2]
theorem wsIdx_indexAny : ∀ l : List UInt8, Lib.indexAny l [32, 9] = wsIdx l
  | [] => rfl
  | c :: t => by
    have ih := wsIdx_indexAny t
    rw [Lib.indexAny, ih]
    unfold wsIdx
    rw [plainLen_cons]
    by_cases h : c = 32 ∨ c = 9
    · have hc : ([32, 9] : List UInt8).contains c = true := by rcases h with h | h <;> simp [h]
      rw [if_pos hc, if_pos h]
      simp
    · have hc : ([32, 9] : List UInt8).contains c = false := by simpa using h
      rw [hc, if_neg h]
      simp only [List.length_cons, Bool.false_eq_true, if_false]
      by_cases hl : plainLen t < t.length
      · have e1 : (if plainLen t < t.length then (plainLen t : Int) else -1) = plainLen t := if_pos hl
        have e2 : (if plainLen t + 1 < t.length + 1 then ((plainLen t + 1 : Nat) : Int) else -1) = ((plainLen t + 1 : Nat) : Int) := if_pos (by omega)
        have e3 : ((plainLen t : Int) == -1) = false := beq_eq_false_iff_ne.2 (by omega)
        rw [e1, e2, e3]
        simp
      · have e1 : (if plainLen t < t.length then (plainLen t : Int) else -1) = -1 := if_neg hl
        have e2 : (if plainLen t + 1 < t.length + 1 then ((plainLen t + 1 : Nat) : Int) else -1) = -1 := if_neg (by omega)
        rw [e1, e2]
        rfl

theorem indexAny_long (s : ByteArray) (w : World) (h8 : 8 < s.size) (hs : s.size < 4294967281) :
    Calls Tryz.prog 57 #[.string s, .string ⟨#[32, 9]⟩] w fun e w' => e = .returned (.int .i64 (wsIdx (bl s))) ∧ Gr w w' := by
  have hz : ∀ w, (zeroValue 175).run Tryz.prog w = .ok (.agg (Array.replicate 256 (.bool false))) w := fun w => by kernel_rfl
  refine (Tryz.strings_IndexAny_long hz s ⟨#[32, 9]⟩ w (by show 2 ≤ 2; omega) h8 hs (by show 2 < _; omega) ?_).mono ?_
  · intro j b hj
    match j, hj with
    | 0, hj => simp at hj; subst hj; decide
    | 1, hj => simp at hj; subst hj; decide
    | j + 2, hj => simp at hj
  · rintro e w' ⟨rfl, rfl⟩
    exact ⟨by rw [← wsIdx_indexAny]; rfl, ((Gr.refl _).alloc _).alloc _⟩

/-- No blank among the first p bytes, which are whole runes. -/
theorem plainLen_skip (l : List UInt8) (k : Nat) (h : ∀ j (_ : j < k) (hl : j < l.length), ¬ (l[j] = 32 ∨ l[j] = 9)) (hk : k ≤ l.length) : plainLen l = k + plainLen (l.drop k) := by
  induction k generalizing l with
  | zero => simp
  | succ k ih =>
    cases l with
    | nil => simp at hk
    | cons c t =>
      have h0 := h 0 (by omega) (by simp)
      simp only [List.getElem_cons_zero] at h0
      rw [plainLen_cons, if_neg h0, List.drop_succ_cons, ih t (fun j hj hl => by have := h (j + 1) (by omega) (by simp; omega); simpa using this) (by simpa using hk)]
      omega

theorem decodeN_cont (n b0 b1 b2 b3 : Nat) : (Lib.decodeN n b0 b1 b2 b3).2 ≤ 4 ∧ (2 ≤ (Lib.decodeN n b0 b1 b2 b3).2 → b1 / 64 = 2) ∧ (3 ≤ (Lib.decodeN n b0 b1 b2 b3).2 → b2 / 64 = 2) ∧ (4 ≤ (Lib.decodeN n b0 b1 b2 b3).2 → b3 / 64 = 2) := by
  unfold Lib.decodeN
  repeat' split
  all_goals simp_all
/-- A rune that is not ASCII has no ASCII byte. -/
theorem decodeL_bytes (l : List UInt8) (h0 : 128 ≤ (l.getD 0 0).toNat) (j : Nat) (hj : j < (Lib.decodeL l).2) : 128 ≤ (l.getD j 0).toNat := by
  have h := decodeN_cont l.length (l.getD 0 0).toNat (l.getD 1 0).toNat (l.getD 2 0).toNat (l.getD 3 0).toNat
  rw [← Lib.decodeL_N] at h
  obtain ⟨h4, h1, h2, h3⟩ := h
  have hc : j = 0 ∨ j = 1 ∨ j = 2 ∨ j = 3 := by omega
  rcases hc with rfl | rfl | rfl | rfl
  · exact h0
  · have := h1 (by omega); omega
  · have := h2 (by omega); omega
  · have := h3 (by omega); omega
theorem decodeL_head (c : UInt8) (t : List UInt8) (h : 128 ≤ c.toNat) : 128 ≤ (Lib.decodeL (c :: t)).1 := by
  have := (decode_high (ba (c :: t)) 0 (by show 0 < (c :: t).toArray.size; simp) (by show 128 ≤ ((c :: t).toArray[0]'(by simp)).toNat; simpa using h)).1
  exact this
theorem plainLen_high (c : UInt8) (t : List UInt8) (h : 128 ≤ c.toNat) : plainLen (c :: t) = (Lib.decodeL (c :: t)).2 + plainLen ((c :: t).drop (Lib.decodeL (c :: t)).2) := by
  refine plainLen_skip _ _ (fun j hj hl => ?_) (Lib.decodeL_le _ (by simp))
  have := decodeL_bytes (c :: t) (by simpa using h) j hj
  rw [List.getD_eq_getElem?_getD, List.getElem?_eq_getElem hl, Option.getD_some] at this
  rintro (e | e)
  · rw [e] at this; exact absurd this (by decide)
  · rw [e] at this; exact absurd this (by decide)

/-- IndexRune in a blank and a tab, at any rune. -/
theorem indexRune_any (c : Nat) (h1 : c ≤ 1114111) (w : World) : Calls Tryz.prog 94 #[.string ⟨#[32, 9]⟩, .int .i32 c] w fun e w' => e = .returned (.int .i64 (if c = 32 then 0 else if c = 9 then 1 else -1)) ∧ Gr w w' := by
  by_cases h : c < 128
  · refine (Tryz.strings_IndexRune_ascii ⟨#[32, 9]⟩ c w (by omega) (by omega)).mono ?_
    rintro e w' ⟨rfl, rfl⟩
    refine ⟨?_, Gr.refl _⟩
    have : ∀ c : Fin 128, Lib.indexByte [32, 9] (((c.val : Nat) : Int)).toNat.toUInt8 = (if c.val = 32 then 0 else if c.val = 9 then 1 else -1) := by decide
    exact congrArg (fun z => Ending.returned (.int .i64 z)) (this ⟨c, h⟩)
  · rw [if_neg (by omega), if_neg (by omega)]
    by_cases h2 : c = 65533
    · subst h2; exact indexRune_err w
    · exact indexRune_high c (by omega) h1 h2 w

set_option maxHeartbeats 2000000 in
set_option maxRecDepth 100000 in
theorem indexAny_short (s : ByteArray) (w : World) (h8 : s.size ≤ 8) :
    Calls Tryz.prog 57 #[.string s, .string ⟨#[32, 9]⟩] w fun e w' => e = .returned (.int .i64 (wsIdx (bl s))) ∧ Gr w w' := by
  have h8z : decide ((8 : Int) < (s.size : Int)) = false := decide_eq_false (by omega)
  obtain ⟨ANS, hANS⟩ : ∃ a, plainLen (bl s) = a := ⟨_, rfl⟩
  have HA := Lib.hid hANS
  clear hANS
  go_enter Tryz.func57, Tryz.ntmps57
  go_wp2_with fail
  refine (Tryz.strings_shouldUseASCIISet _ _).mono ?_
  rintro e w' ⟨rfl, rfl⟩
  rw [h8z]
  go_wp2_with fail
  go_loopg [] (s.size + 1) (fun g wx => Gr w' wx ∧ ∃ p : Nat, p ≤ s.size ∧ s.size - p < g ∧ wx.heap[w'.heap.size]? = some (.stringIter s p) ∧ Hid (p + plainLen ((bl s).drop p) = ANS))
  case atStart => exact ⟨(Gr.refl w').alloc _, 0, by omega, by omega, World.iter_heap w' s 0, Lib.hid (by rw [← HA.out]; simp)⟩
  case round =>
    obtain ⟨hG, p, hp, hgk, hit, HK⟩ := hrel
    obtain ⟨g, rfl⟩ : ∃ g, gk = g + 1 := ⟨gk - 1, by omega⟩
    by_cases hlt : p < s.size
    · obtain ⟨b, t, hbt⟩ : ∃ b t, (bl s).drop p = b :: t := by
        cases h : (bl s).drop p with
        | nil => have := congrArg List.length h; rw [List.length_drop, bl_length', List.length_nil] at this; omega
        | cons b t => exact ⟨b, t, rfl⟩
      have hstep := HK.out
      rw [hbt] at hstep
      have hwd : 1 ≤ (Utf8.decode s p).2 := by rw [← decodeL_at]; exact Lib.decodeL_width _
      have hle : p + (Utf8.decode s p).2 ≤ s.size := by
        have := Lib.decodeL_le ((bl s).drop p) (by rw [hbt]; simp)
        rw [decodeL_at, List.length_drop, bl_length'] at this
        omega
      have hmax : (Utf8.decode s p).1 ≤ 1114111 := by rw [← decodeL_at]; exact Lib.decodeL_rune _
      have hnx : ∀ ty, (Instr.next (.pointer (some ⟨w'.heap.size, 0, none⟩)) true ty).run Tryz.prog wr = _ := fun ty => Lib.run_next_any_at (P := Tryz.prog) wr w'.heap.size s p ty hit hlt
      have hG' : Gr w' (wr.iterAt w'.heap.size s (p + (Utf8.decode s p).2)) := hG.iterAt (Nat.le_refl _) s _
      have hit' : (wr.iterAt w'.heap.size s (p + (Utf8.decode s p).2)).heap[w'.heap.size]? = some (.stringIter s (p + (Utf8.decode s p).2)) := Lib.iterAt_heap wr _ s p _ hit
      have hdec : Lib.decodeL (b :: t) = Utf8.decode s p := by rw [← hbt, decodeL_at]
      obtain ⟨c, hc⟩ : ∃ c, (Utf8.decode s p).1 = c := ⟨_, rfl⟩
      obtain ⟨wd, hwdv⟩ : ∃ c, (Utf8.decode s p).2 = c := ⟨_, rfl⟩
      rw [hc, hwdv] at hnx
      rw [hwdv] at hwd hle hG' hit'
      rw [hc] at hmax
      have hpl : (c = 32 ∨ c = 9 → plainLen (b :: t) = 0) ∧ (¬ (c = 32 ∨ c = 9) → plainLen (b :: t) = wd + plainLen ((b :: t).drop wd)) := by
        by_cases hb : b.toNat < 128
        · have ha := Lib.decodeL_ascii b t hb
          rw [hdec] at ha
          have hcb : c = b.toNat := by rw [← hc, ha]
          have hw1 : wd = 1 := by rw [← hwdv, ha]
          refine ⟨fun h => ?_, fun h => ?_⟩
          · rw [plainLen_cons, if_pos]
            rcases h with h | h
            · exact .inl (UInt8.toNat_inj.1 (by rw [← hcb, h]; rfl))
            · exact .inr (UInt8.toNat_inj.1 (by rw [← hcb, h]; rfl))
          · rw [hw1, plainLen_cons, if_neg]
            · simp [Nat.add_comm]
            · rintro (e | e)
              · exact h (.inl (by rw [hcb, e]; rfl))
              · exact h (.inr (by rw [hcb, e]; rfl))
        · have hh := decodeL_head b t (by omega)
          rw [hdec, hc] at hh
          refine ⟨fun h => by omega, fun _ => ?_⟩
          have := plainLen_high b t (by omega)
          rw [hdec, hwdv] at this
          exact this
      have Hpl := Lib.hid hpl
      have Hit := Lib.hid hit'
      have Hstep := Lib.hid hstep
      have Hbt := Lib.hid hbt
      clear hc hwdv hit' hstep HK hit hpl hbt hdec
      by_cases hws : c = 32 ∨ c = 9
      · have Hws := Lib.hid hws
        have hge : (0 : Int) ≤ (if c = 32 then 0 else if c = 9 then 1 else -1) := by
          rcases hws with h | h
          · rw [if_pos h]; omega
          · rw [if_neg (by omega), if_pos h]; omega
        obtain ⟨IX, hIX⟩ : ∃ i : Int, (if c = 32 then 0 else if c = 9 then 1 else -1) = i := ⟨_, rfl⟩
        rw [hIX] at hge
        have HIX := Lib.hid hIX
        clear hIX hws
        have hfin : wsIdx (bl s) = p := by
          have h1 := Hstep.out
          rw [Hpl.out.1 Hws.out] at h1
          unfold wsIdx
          rw [HA.out, bl_length', ← h1, if_pos (by omega)]
          rfl
        have Hfin := Lib.hid hfin
        clear hfin
        go_wp2_with fail
        refine (indexRune_any c hmax _).mono ?_
        rintro e w3 ⟨rfl, hg3⟩
        rw [HIX.out]
        go_wp2
        go_ret
        exact ⟨by rw [Hfin.out]; rfl, hG'.trans hg3⟩
      · have Hws := Lib.hid hws
        have hIX : (if c = 32 then 0 else if c = 9 then 1 else -1 : Int) = -1 := by
          rw [if_neg (fun h => hws (.inl h)), if_neg (fun h => hws (.inr h))]
        have HIX := Lib.hid hIX
        clear hIX hws
        go_wp2_with fail
        refine (indexRune_any c hmax _).mono ?_
        rintro e w3 ⟨rfl, hg3⟩
        rw [HIX.out]
        have hit3 := (Gr.below hg3).block w'.heap.size (Array.getElem?_eq_some_iff.1 Hit.out).1
        rw [Hit.out] at hit3
        have Hit3 := Lib.hid hit3
        clear hit3
        go_wp2
        go_roundg g
        case measure => omega
        case rel =>
          have h1 := Hstep.out
          rw [Hpl.out.2 Hws.out, ← Hbt.out, List.drop_drop] at h1
          exact ⟨hG'.trans hg3, p + wd, hle, by omega, Hit3.out, Lib.hid (by omega)⟩
    · have hnx : ∀ ty, (Instr.next (.pointer (some ⟨w'.heap.size, 0, none⟩)) true ty).run Tryz.prog wr = _ := fun ty => Lib.run_next_end_at (P := Tryz.prog) wr w'.heap.size s p ty hit hlt
      have hfin : wsIdx (bl s) = -1 := by
        unfold wsIdx
        rw [HA.out, ← HK.out, List.drop_of_length_le (by rw [bl_length']; omega), bl_length', if_neg (by show ¬ (p + 0 < s.size); omega)]
      have Hfin := Lib.hid hfin
      clear hfin HK hit
      go_wp2
      go_ret
      exact ⟨by rw [Hfin.out]; rfl, hG⟩

theorem indexAny_any (s : ByteArray) (w : World) (hs : s.size < 4294967281) :
    Calls Tryz.prog 57 #[.string s, .string ⟨#[32, 9]⟩] w fun e w' => e = .returned (.int .i64 (wsIdx (bl s))) ∧ Gr w w' := by
  by_cases h8 : s.size ≤ 8
  · exact indexAny_short s w h8
  · exact indexAny_long s w (by omega) hs
end Go.Proofs.Cuts
