/-
  (*EventError).Error and evented: what they return. Conditions: the numbers are from 0 to 999; the listed variables lie in the world; the error's block lies there.
-/
import Derived.Test.YtgimedhfhpiipaaGreatDoorPick
import Derived.Test.YtgimedhfhpiipaaGreatDoorCheck3
import Derived.Test.YtgimedhfhpiipaaGreatDoorIsAs
import Derived.Test.YtgimedhfhpiipaaGreatDoorAs
import Derived.Lib.AppendIntMem
namespace Go.Proofs.Cuts
open Go.RowKit

theorem dg_len : ∀ n : Nat, n < 1000 → (dg n).length ≤ 3 := by
  intro n h
  by_cases h1 : n < 10
  · rw [dg_small h1]; simp
  · rw [dg_big h1]
    by_cases h2 : n / 10 < 10
    · rw [dg_small h2]; simp
    · rw [dg_big h2, dg_small (by omega)]; simp
theorem itoa_num (n : Nat) (w : World) (hL : Laid w) (hn : n < 1000) : Calls Tryz.prog 91 #[.int .i64 n] w fun e w' => e = .returned (.string (ba (dg n))) ∧ Gr w w' := by
  rw [dg_itoa]
  exact (Tryz.strconv_Itoa n (by omega) (by omega) w hL.pow).mono fun _ _ ⟨h, k, os, hw⟩ => ⟨h, hw ▸ Lib.below_grow _ w (Nat.le_refl _) k os⟩
def errP : ByteArray := ⟨#[100, 97, 105, 108, 105, 101, 115, 58, 32, 101, 114, 114, 111, 114, 32]⟩
theorem errno_any (n : Nat) (w : World) (hL : Laid w) (hn : n < 1000) : Calls Tryz.prog 164 #[.int .i64 n] w fun e w' => e = .returned (.string (errP ++ ba (dg n))) ∧ Gr w w' := by
  obtain ⟨S, hS⟩ : ∃ S, ba (dg n) = S := ⟨_, rfl⟩
  have hSs : S.size ≤ 3 := by rw [← hS, ba_size]; exact dg_len n hn
  have hc := itoa_num n w hL hn
  rw [hS] at hc ⊢
  clear hS
  go_enter Tryz.func164, Tryz.ntmps164
  go_wp2_with fail
  refine hc.mono ?_
  rintro e w1 ⟨rfl, hg⟩
  go_wp2
  go_ret
  exact ⟨rfl, hg⟩

def evP : ByteArray := ⟨#[100, 97, 105, 108, 105, 101, 115, 58, 32, 101, 118, 101, 110, 116, 32]⟩
def midP : ByteArray := ⟨#[58, 32, 100, 97, 105, 108, 105, 101, 115, 58, 32, 101, 114, 114, 111, 114, 32]⟩
/-- What an event's error tells. -/
theorem evErr_any (b k e : Nat) (w : World) (hL : Laid w) (hk : k < 1000) (he : e < 1000) (h0 : w.cell? ⟨b, 0, none⟩ = some (.int .i64 k)) (h1 : w.cell? ⟨b, 1, none⟩ = some (.int .i64 e)) :
    Calls Tryz.prog 167 #[.pointer (some ⟨b, 0, none⟩)] w fun r w' => r = .returned (.string (((evP ++ ba (dg k)) ++ midP) ++ ba (dg e))) ∧ Gr w w' := by
  have hck := fun w1 (g : Gr w w1) => itoa_num k w1 (hL.grow g) hk
  have hce := fun w1 (g : Gr w w1) => errno_any e w1 (hL.grow g) he
  obtain ⟨S, hS⟩ : ∃ S, ba (dg k) = S := ⟨_, rfl⟩
  have hSs : S.size ≤ 3 := by rw [← hS, ba_size]; exact dg_len k hk
  obtain ⟨E, hE⟩ : ∃ E, ba (dg e) = E := ⟨_, rfl⟩
  have hEs : E.size ≤ 3 := by rw [← hE, ba_size]; exact dg_len e he
  obtain ⟨T, hT⟩ : ∃ T, errP ++ E = T := ⟨_, rfl⟩
  have hTs : T.size ≤ 20 := by rw [← hT, ByteArray.size_append]; show 15 + E.size ≤ 20; omega
  have hJ : ((evP ++ S) ++ ⟨#[58, 32]⟩) ++ T = ((evP ++ S) ++ midP) ++ E := by
    rw [← hT]
    apply ByteArray.ext
    have : midP.data = #[58, 32] ++ errP.data := rfl
    simp only [ByteArray.data_append, this, Array.append_assoc]
  rw [hS, hE]
  rw [hS] at hck
  rw [hE, hT] at hce
  obtain ⟨A1, hA1⟩ : ∃ A, evP ++ S = A := ⟨_, rfl⟩
  have hA1s : A1.size ≤ 20 := by rw [← hA1, ByteArray.size_append]; show 15 + S.size ≤ 20; omega
  have a1 := fun W => run_string_add (P := Tryz.prog) W evP S (by decide) (by omega)
  obtain ⟨A2, hA2⟩ : ∃ A, A1 ++ ⟨#[58, 32]⟩ = A := ⟨_, rfl⟩
  have hA2s : A2.size ≤ 30 := by rw [← hA2, ByteArray.size_append]; show A1.size + 2 ≤ 30; omega
  have a2 := fun W => run_string_add (P := Tryz.prog) W A1 ⟨#[58, 32]⟩ (by omega) (by decide)
  have a3 := fun W => run_string_add (P := Tryz.prog) W A2 T (by omega) (by omega)
  rw [hA1] at a1 hJ ⊢
  rw [hA2] at a2 hJ
  unfold evP at a1
  have HJ := Lib.hid hJ
  have Hck := Lib.hid hck
  have Hce := Lib.hid hce
  clear hS hE hT hA1 hA2 hJ hck hce hL
  go_enter Tryz.func167, Tryz.ntmps167
  go_wp2
  go_region_held3 (fun w' => Gr w w' ∧ w'.cell? ⟨b, 0, none⟩ = some (.int .i64 k) ∧ w'.cell? ⟨b, 1, none⟩ = some (.int .i64 e)) (first | assumption | exact ⟨(Gr.refl _).drew, h0, h1⟩ | (obtain ⟨hq1, hq2, hq3⟩ := ‹Gr w _ ∧ _ ∧ _›; exact ⟨hq1.trans hg, hg.cell hq2, hg.cell hq3⟩))
    (first | (go_at_call 91; refine (Hck.out _ (And.left (by assumption))).mono ?_; rintro r w' ⟨rfl, hg⟩) | (go_at_call 164; refine (Hce.out _ (And.left (by assumption))).mono ?_; rintro r w' ⟨rfl, hg⟩))
  go_wp2
  go_ret
  obtain ⟨hq1, -, -⟩ := ‹Gr w _ ∧ _ ∧ _›
  exact ⟨by rw [← HJ.out]; rfl, hq1⟩
end Go.Proofs.Cuts
