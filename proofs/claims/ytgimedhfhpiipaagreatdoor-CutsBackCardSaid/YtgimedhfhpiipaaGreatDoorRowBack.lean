/-
  CutsBack returns true of every list and every text; the card. Condition: the row's own (the listed variables hold what the program's text lays).
-/
import Derived.Test.YtgimedhfhpiipaaGreatDoorRowArgs
import Derived.Test.YtgimedhfhpiipaaGreatDoorBack2
import Derived.Test.YtgimedhfhpiipaaGreatDoorCards
import Derived.Test.YtgimedhfhpiipaaGreatDoorTie
namespace Go.Proofs.Cuts
open Go.ChangeShapes Go.WideShapes Go.ChangeAt Go.RowKit Go.Proofs.YtgimedhfhpiipaaGreatDoor

set_option maxRecDepth 100000 in
theorem back_contract (H : Type) (enc : TypeId × Value → H) (W : World) (base : Nat) (args : Array Value) (ds gs : List (DataW H)) (before : List MemPlace)
    (hval : ∀ (j : Nat) t v, Tryz.f7.params[j]? = some t → args[j]? = some v → Value.okWide Tryz.prog W .any base t v)
    (hW : DataW.Whole enc Tryz.prog Tryz.f7.params.toList Rows.cutsBackSpec.vars false W args.toList ds gs before) (hL : Laid W) :
    Calls Tryz.prog 7 args W fun e W' => ∃ v, e = .returned v ∧ Rows.cutsBackSpec.post enc Tryz.prog Tryz.f7 false true false false W args v W' := by
  have hW' := hW
  obtain ⟨p, q, hA0, hV, rfl, hfz, hnd⟩ := hW
  have hA : DataW.TrodAll enc Tryz.prog W 0 (fun _ => true) true Tryz.f7.params.toList args.toList ds p := hA0
  rw [Tryz.params7] at hA hval
  obtain ⟨v0, vs0, d0, ds0, p0, q0, hargs, rfl, rfl, h0, r0⟩ := trodAll_cons hA
  obtain ⟨v1, vs1, d1, ds1, p1, q1, rfl, rfl, rfl, h1, r1⟩ := trodAll_cons r0
  obtain ⟨rfl, rfl, rfl⟩ := trodAll_nil r1
  obtain rfl : args = #[v0, v1] := by cases args; simp_all
  obtain ⟨rfl, rfl⟩ := trodVars_none hV
  have k0 := h0
  have lt0 : ∀ x ∈ p0, x.block < W.heap.size := by obtain ⟨m, hm⟩ := k0; exact DataW.trod_lt m _ _ _ hm
  obtain ⟨l, A, c, rfl, hc, hS, hsz, ht⟩ := open_list (hval 0 30 v0 rfl rfl) h0
  obtain ⟨a1, rfl, rfl, rfl, y1⟩ := Go.ChangeMaps.open_string Tryz.underlying9 (hval 1 9 v1 rfl rfl) h1
  clear hA0
  refine (back_any l A c a1 W hL hc hS hsz).mono fun e W' ⟨he, bel⟩ => ?_
  subst he
  exact ⟨_, rfl, _, _, _, [], _, [], hW', trodAll_mk1 (shut_bool Tryz.underlying4 _), trodAll_cons_mk (Below.trod laidOut (by kernel_rfl) (of_decide_eq_true (by kernel_rfl)) k0 bel.below lt0) (trodAll_cons_mk (Go.ChangeMaps.shut_string Tryz.underlying9 y1) trodAll_mk0), rfl, bel.below.frame _, fun h => by cases h⟩

def backArgs : Array Value := #[.agg #[.string ByteArray.empty, .int .i64 0, .slice none 0 0], .string ByteArray.empty]
theorem back_reads (os : Os) {H : Type} (enc : TypeId × Value → H) : ∃ places, DataW.whole enc Tryz.prog ((laidWorld os).forCall (fun _ _ => 0) ⟨#[], backArgs, []⟩).memory Tryz.f7.params.toList Rows.cutsBackSpec.vars false backArgs.toList 8 = some ([.agg [.lit (.string []), .lit (.int .i64 0), .nil], .lit (.string [])], [], places) :=
  ⟨[], by kernel_rfl⟩
set_option maxRecDepth 100000 in
theorem back_lifted (os : Os) (started : os.Started) (H : Type) (enc : TypeId × Value → H) (F : Stop.Interp) :
    ReturnsInHanded {} Tryz.checked os 7 .any ((OpenSpec.ofChange Rows.cutsBackSpec).preRow enc Tryz.prog Tryz.f7 Rows.cutsBackRow.domain false Rows.cutsBackRow.laid) (((OpenSpec.ofChange Rows.cutsBackSpec).at F).post enc Tryz.prog Tryz.f7 false true false false) := by
  obtain ⟨places, hx⟩ := back_reads os enc
  refine returnsInHanded_of_row (C := Tryz.checked) (s := OpenSpec.ofChange Rows.cutsBackSpec) own started (by kernel_rfl) Tryz.func7
    (witness_row_atRef (enc := enc) (C := Tryz.checked) false (laidWorld os) backArgs rfl (world_vars os _) (world_rest os _) (by kernel_rfl)
      (OpenSpec.preRow_of_cond 8 hx (by kernel_rfl) (fun k hk => by cases hk) (by kernel_rfl) (laid_met os _))) ?_
  intro W base args ds gs before hval hW _ _ _ hL hS _
  exact back_contract H enc W base args ds gs before hval hW (of_laid hL (size_of_shaped hS))
end Go.Proofs.Cuts
namespace Go.Proofs.YtgimedhfhpiipaaGreatDoor
open Go Go.Proofs.Cuts
theorem cutsBack_said : Rows.CutsBackSaid :=
  OpenClaim.holds_of_cond 7 Tryz.f7 rfl rfl rfl rfl rfl rfl rfl ⟨rfl, rfl, rfl, rfl, rfl⟩ rfl rfl rfl rfl rfl (by kernel_rfl) Tryz.func7 (by kernel_rfl)
    (of_decide_eq_true (by kernel_rfl)) (by unfold Func.isWrapper; first | (rw [if_pos (by decide +kernel)]; kernel_rfl) | (rw [if_neg (by decide +kernel)]; exact ⟨rfl, rfl⟩))
    (fun os started H enc _ F => by rw [OpenClaim.pre_eq_preRow]; exact back_lifted os started H enc F)
/-- No parameter wants a stand-in. -/
theorem cutsBack_plain (f : FuncId) (fn : Func) (hf : Tryz.pinned.checked.prog.funcNamed "dailies/dailieslaw19.CutsBack" = some f) (hfn : Tryz.pinned.checked.prog.funcs[f]? = some fn) :
    true = Tryz.pinned.checked.prog.looks [] ∧ ∀ (j : Nat) t, fn.params[j]? = some t → Tryz.pinned.checked.prog.wantsStandIn t = false := by
  obtain rfl : f = 7 := Option.some.inj ((show Tryz.prog.funcNamed "dailies/dailieslaw19.CutsBack" = some 7 by kernel_rfl).symm.trans hf) |>.symm
  obtain rfl : fn = Tryz.f7 := (Option.some.inj (Tryz.func7.symm.trans hfn)).symm
  refine ⟨by kernel_rfl, fun j t ht => ?_⟩
  rw [Tryz.params7] at ht
  have hm : t ∈ [30, 9] := by simpa using Array.mem_of_getElem? ht
  have hall : ([30, 9].all fun u => !Tryz.prog.wantsStandIn u) = true := by kernel_rfl
  exact (show Tryz.prog.wantsStandIn t = false by simpa using List.all_eq_true.1 hall t hm)
/-- The card of CutsBack. -/
theorem cutsBack_holds : Rows.CutsBackCardSaid :=
  Claim7.holds_tied_plain_at .later [] _ _ _ _ cutsBack_said (fun _ h => by cases h) (by kernel_rfl) (fun _ h => by cases h) cutsBack_row_tie rfl ⟨rfl, rfl⟩ (by kernel_rfl) rfl cutsBack_plain (by kernel_rfl)
#print axioms cutsBack_holds
end Go.Proofs.YtgimedhfhpiipaaGreatDoor
