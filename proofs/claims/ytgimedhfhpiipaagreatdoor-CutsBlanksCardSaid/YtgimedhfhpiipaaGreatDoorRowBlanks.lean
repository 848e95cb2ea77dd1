/-
  CutsBlanks returns true of every list and every numbers; the card. Condition: the row's own (the listed variables hold what the program's text lays).
-/
import Derived.Test.YtgimedhfhpiipaaGreatDoorRowArgs
import Derived.Test.YtgimedhfhpiipaaGreatDoorBlanks
import Derived.Test.YtgimedhfhpiipaaGreatDoorCards
import Derived.Test.YtgimedhfhpiipaaGreatDoorTie
namespace Go.Proofs.Cuts
open Go.ChangeShapes Go.WideShapes Go.ChangeAt Go.RowKit Go.Deep Go.Joins Go.Proofs.YtgimedhfhpiipaaGreatDoor

section
variable {H : Type} {enc : TypeId × Value → H} {w : World} {sp : Nat → Bool} {held : Bool}
/-- A slice of numbers. -/
theorem open_intsAt {n : Nat} {v : Value} {x : DataW H × List MemPlace} (h : DataW.trod enc Tryz.prog w 0 sp held n 42 [v] = some x) :
    ∃ (A : Option Addr) (m c : Nat) (f : Nat → Int), v = .slice A m c ∧ m ≤ maxLen ∧ IntsAt w A m f := by
  rcases open_slice1 Tryz.underlying42 c3 h with ⟨hcs, _⟩ | ⟨a, len, cap, m, n', V, D, Pl, hcs, _, hl, hcm, hm, _, hi⟩
  · simp only [List.cons.injEq, and_true] at hcs
    exact ⟨none, 0, 0, fun _ => 0, hcs, Nat.zero_le _, fun _ => ⟨by show (-9223372036854775808 : Int) ≤ 0; decide, by show (0 : Int) ≤ 9223372036854775807; decide⟩, .inl rfl⟩
  · simp only [List.cons.injEq, and_true] at hcs
    have hlm : len ≤ m := by rw [hm]; split <;> omega
    have hx : ∀ i, ∃ z : Int, I64 z ∧ (i < len → w.cell? (a.add i) = some (.int .i64 z)) := by
      intro i
      by_cases hlt : i < len
      · obtain ⟨h1, h2⟩ := hi i (by omega)
        obtain ⟨z, e1, _, e3⟩ := DataW.trod_int Tryz.underlying3 h2
        simp only [List.cons.injEq, and_true] at e1
        rw [e1] at h1
        simp only [Lit.wf, Bool.and_eq_true] at e3
        exact ⟨z, ⟨of_decide_eq_true e3.1, of_decide_eq_true e3.2⟩, fun _ => h1⟩
      · exact ⟨0, ⟨by omega, by omega⟩, fun h => absurd h hlt⟩
    obtain ⟨f, hf⟩ := Classical.skolem.1 hx
    refine ⟨some a, len, cap, f, hcs, by omega, fun k => (hf k).1, ?_⟩
    by_cases h0 : len = 0
    · exact .inl h0
    · obtain ⟨b, o, s⟩ := a
      have hs : s = none := by
        have h00 := (hf 0).2 (by omega)
        have ha : ∀ a : Addr, a.add 0 = a := fun a => by simp [Addr.add]
        rw [ha] at h00
        exact Go.Proofs.cell_spot h00
      subst hs
      refine .inr ⟨b, o, rfl, fun k hk => ?_⟩
      have := (hf k).2 hk
      rwa [Addr.add_lit] at this
end
set_option maxRecDepth 100000 in
theorem blanks_contract (H : Type) (enc : TypeId × Value → H) (W : World) (base : Nat) (args : Array Value) (ds gs : List (DataW H)) (before : List MemPlace)
    (hval : ∀ (j : Nat) t v, Tryz.f5.params[j]? = some t → args[j]? = some v → Value.okWide Tryz.prog W .any base t v)
    (hW : DataW.Whole enc Tryz.prog Tryz.f5.params.toList Rows.cutsBlanksSpec.vars false W args.toList ds gs before) (hL : Laid W) :
    Calls Tryz.prog 5 args W fun e W' => ∃ v, e = .returned v ∧ Rows.cutsBlanksSpec.post enc Tryz.prog Tryz.f5 false true false false W args v W' := by
  have hW' := hW
  obtain ⟨p, q, hA0, hV, rfl, hfz, hnd⟩ := hW
  have hA : DataW.TrodAll enc Tryz.prog W 0 (fun _ => true) true Tryz.f5.params.toList args.toList ds p := hA0
  rw [Tryz.params5] at hA hval
  obtain ⟨v0, vs0, d0, ds0, p0, q0, hargs, rfl, rfl, h0, r0⟩ := trodAll_cons hA
  obtain ⟨v1, vs1, d1, ds1, p1, q1, rfl, rfl, rfl, h1, r1⟩ := trodAll_cons r0
  obtain ⟨rfl, rfl, rfl⟩ := trodAll_nil r1
  obtain rfl : args = #[v0, v1] := by cases args; simp_all
  obtain ⟨rfl, rfl⟩ := trodVars_none hV
  have k0 := h0
  have lt0 : ∀ x ∈ p0, x.block < W.heap.size := by obtain ⟨m, hm⟩ := k0; exact DataW.trod_lt m _ _ _ hm
  obtain ⟨l, A, c, rfl, hc, hS, hsz, ht⟩ := open_list (hval 0 30 v0 rfl rfl) h0
  have k1 := h1
  have lt1 : ∀ x ∈ p1, x.block < W.heap.size := by obtain ⟨m, hm⟩ := k1; exact DataW.trod_lt m _ _ _ hm
  obtain ⟨A0, len0, cap0, rfl⟩ := okWide_slice Tryz.underlying42 (hval 1 42 v1 rfl rfl)
  obtain ⟨n1, h1n⟩ := h1
  obtain ⟨A', m, c', f, hv, hmm, hF⟩ := open_intsAt h1n
  injection hv with e1 e2 e3
  subst e1 e2 e3
  clear hA0
  refine (blanks_any l A A0 c len0 cap0 f W hL hc hS hsz hF hmm).mono fun e W' ⟨he, bel⟩ => ?_
  subst he
  exact ⟨_, rfl, _, _, _, [], _, [], hW', trodAll_mk1 (shut_bool Tryz.underlying4 _), trodAll_cons_mk (Below.trod laidOut (by kernel_rfl) (of_decide_eq_true (by kernel_rfl)) k0 bel.below lt0) (trodAll_cons_mk (Below.trod laidOut (by kernel_rfl) (of_decide_eq_true (by kernel_rfl)) k1 bel.below lt1) trodAll_mk0), rfl, bel.below.frame _, fun h => by cases h⟩

def blanksArgs : Array Value := #[.agg #[.string ByteArray.empty, .int .i64 0, .slice none 0 0], .slice none 0 0]
theorem blanks_reads (os : Os) {H : Type} (enc : TypeId × Value → H) : ∃ places, DataW.whole enc Tryz.prog ((laidWorld os).forCall (fun _ _ => 0) ⟨#[], blanksArgs, []⟩).memory Tryz.f5.params.toList Rows.cutsBlanksSpec.vars false blanksArgs.toList 8 = some ([.agg [.lit (.string []), .lit (.int .i64 0), .nil], .nil], [], places) :=
  ⟨[], by kernel_rfl⟩
set_option maxRecDepth 100000 in
theorem blanks_lifted (os : Os) (started : os.Started) (H : Type) (enc : TypeId × Value → H) (F : Stop.Interp) :
    ReturnsInHanded {} Tryz.checked os 5 .any ((OpenSpec.ofChange Rows.cutsBlanksSpec).preRow enc Tryz.prog Tryz.f5 Rows.cutsBlanksRow.domain false Rows.cutsBlanksRow.laid) (((OpenSpec.ofChange Rows.cutsBlanksSpec).at F).post enc Tryz.prog Tryz.f5 false true false false) := by
  obtain ⟨places, hx⟩ := blanks_reads os enc
  refine returnsInHanded_of_row (C := Tryz.checked) (s := OpenSpec.ofChange Rows.cutsBlanksSpec) own started (by kernel_rfl) Tryz.func5
    (witness_row_atRef (enc := enc) (C := Tryz.checked) false (laidWorld os) blanksArgs rfl (world_vars os _) (world_rest os _) (by kernel_rfl)
      (OpenSpec.preRow_of_cond 8 hx (by kernel_rfl) (fun k hk => by cases hk) (by kernel_rfl) (laid_met os _))) ?_
  intro W base args ds gs before hval hW _ _ _ hL hS _
  exact blanks_contract H enc W base args ds gs before hval hW (of_laid hL (size_of_shaped hS))
end Go.Proofs.Cuts
namespace Go.Proofs.YtgimedhfhpiipaaGreatDoor
open Go Go.Proofs.Cuts
theorem cutsBlanks_said : Rows.CutsBlanksSaid :=
  OpenClaim.holds_of_cond 5 Tryz.f5 rfl rfl rfl rfl rfl rfl rfl ⟨rfl, rfl, rfl, rfl, rfl⟩ rfl rfl rfl rfl rfl (by kernel_rfl) Tryz.func5 (by kernel_rfl)
    (of_decide_eq_true (by kernel_rfl)) (by unfold Func.isWrapper; first | (rw [if_pos (by decide +kernel)]; kernel_rfl) | (rw [if_neg (by decide +kernel)]; exact ⟨rfl, rfl⟩))
    (fun os started H enc _ F => by rw [OpenClaim.pre_eq_preRow]; exact blanks_lifted os started H enc F)
/-- No parameter wants a stand-in. -/
theorem cutsBlanks_plain (f : FuncId) (fn : Func) (hf : Tryz.pinned.checked.prog.funcNamed "dailies/dailieslaw19.CutsBlanks" = some f) (hfn : Tryz.pinned.checked.prog.funcs[f]? = some fn) :
    true = Tryz.pinned.checked.prog.looks [] ∧ ∀ (j : Nat) t, fn.params[j]? = some t → Tryz.pinned.checked.prog.wantsStandIn t = false := by
  obtain rfl : f = 5 := Option.some.inj ((show Tryz.prog.funcNamed "dailies/dailieslaw19.CutsBlanks" = some 5 by kernel_rfl).symm.trans hf) |>.symm
  obtain rfl : fn = Tryz.f5 := (Option.some.inj (Tryz.func5.symm.trans hfn)).symm
  refine ⟨by kernel_rfl, fun j t ht => ?_⟩
  rw [Tryz.params5] at ht
  have hm : t ∈ [30, 42] := by simpa using Array.mem_of_getElem? ht
  have hall : ([30, 42].all fun u => !Tryz.prog.wantsStandIn u) = true := by kernel_rfl
  exact (show Tryz.prog.wantsStandIn t = false by simpa using List.all_eq_true.1 hall t hm)
/-- The card of CutsBlanks. -/
theorem cutsBlanks_holds : Rows.CutsBlanksCardSaid :=
  Claim7.holds_tied_plain_at .later [] _ _ _ _ cutsBlanks_said (fun _ h => by cases h) (by kernel_rfl) (fun _ h => by cases h) cutsBlanks_row_tie rfl ⟨rfl, rfl⟩ (by kernel_rfl) rfl cutsBlanks_plain (by kernel_rfl)
#print axioms cutsBlanks_holds
end Go.Proofs.YtgimedhfhpiipaaGreatDoor
