/-
  dailieslaw19.raw, pick and filled, and the pieces that filled lays: the text that it lays of rows of words. Conditions: the rows and the numbers can be read; no row is empty or long; pick's n is above 0.
-/
import Derived.Test.YtgimedhfhpiipaaGreatDoorRefLines
import Derived.BigQuiet
import Derived.Test.YtgimedhfhpiipaaGreatDoorPBack
import Derived.Test.YtgimedhfhpiipaaGreatDoorPick
import Derived.Test.YtgimedhfhpiipaaGreatDoorRefName
namespace Go.Proofs.Cuts
open Go.RowKit

def noneT (q : Nat) : List UInt8 := if q = 2 then [10] else if q = 3 then [35, 32, 99, 117, 116, 32, 120, 10] else if q = 4 then [32, 9, 10] else if q = 5 then [35, 34, 10, 10] else []
def freeT (q : Nat) : List UInt8 := if q = 2 then [32] else if q = 3 then [9] else []
def blankT (q : Nat) : List UInt8 := if q = 0 then [32] else if q = 1 then [32, 32] else if q = 2 then [9] else [32, 9, 32]
def tailT (q : Nat) : List UInt8 := if q = 2 then [32, 35, 32, 102, 97, 100, 101, 32, 51] else if q = 3 then [9] else if q = 4 then [32, 35] else []
def PreOk (pre : List (List UInt8)) : Prop := ∀ l ∈ pre, (∀ c ∈ l, c ≠ 10) ∧ (∀ p, (words l p).1 = []) ∧ Vt l
theorem pre_one {l : List UInt8} (h1 : ∀ c ∈ l, c ≠ 10) (h2 : ∀ p, (words l p).1 = []) (h3 : ∀ c ∈ l, c.toNat < 128) : (∀ c ∈ l, c ≠ 10) ∧ (∀ p, (words l p).1 = []) ∧ Vt l := ⟨h1, h2, .ascii h3⟩
theorem none_pre (q : Nat) : ∃ pre, noneT q = textOf pre ∧ PreOk pre := by
  unfold noneT
  split
  · exact ⟨[[]], rfl, by intro l hl; simp only [List.mem_cons, List.not_mem_nil, or_false] at hl; subst hl; exact pre_one (by decide) (fun p => rfl) (by decide)⟩
  split
  · exact ⟨[[35, 32, 99, 117, 116, 32, 120]], rfl, by intro l hl; simp only [List.mem_cons, List.not_mem_nil, or_false] at hl; subst hl; exact pre_one (by decide) (fun p => rfl) (by decide)⟩
  split
  · exact ⟨[[32, 9]], rfl, by intro l hl; simp only [List.mem_cons, List.not_mem_nil, or_false] at hl; subst hl; exact pre_one (by decide) (fun p => rfl) (by decide)⟩
  split
  · exact ⟨[[35, 34], []], rfl, by intro l hl; simp only [List.mem_cons, List.not_mem_nil, or_false] at hl; rcases hl with rfl | rfl <;> exact pre_one (by decide) (fun p => rfl) (by decide)⟩
  · exact ⟨[], rfl, by intro l hl; cases hl⟩
theorem free_ok (q : Nat) : ∀ c ∈ freeT q, c = 32 ∨ c = 9 := by
  have h : freeT q = [32] ∨ freeT q = [9] ∨ freeT q = [] := by
    unfold freeT
    by_cases a : q = 2
    · exact .inl (if_pos a)
    · rw [if_neg a]
      by_cases b : q = 3
      · exact .inr (.inl (if_pos b))
      · exact .inr (.inr (if_neg b))
  rcases h with h | h | h <;> rw [h] <;> decide
theorem blank_ok (q : Nat) : (∀ c ∈ blankT q, c = 32 ∨ c = 9) ∧ blankT q ≠ [] := by
  have h : blankT q = [32] ∨ blankT q = [32, 32] ∨ blankT q = [9] ∨ blankT q = [32, 9, 32] := by
    unfold blankT
    by_cases a : q = 0
    · exact .inl (if_pos a)
    · rw [if_neg a]
      by_cases b : q = 1
      · exact .inr (.inl (if_pos b))
      · rw [if_neg b]
        by_cases c : q = 2
        · exact .inr (.inr (.inl (if_pos c)))
        · exact .inr (.inr (.inr (if_neg c)))
  rcases h with h | h | h | h <;> rw [h] <;> decide
theorem tail_ok (q : Nat) : TailOk (tailT q) := by
  unfold tailT
  split
  · exact ⟨.ascii (by decide), .inr ⟨_, _, rfl, .inl rfl⟩, fun p => rfl, by decide⟩
  split
  · exact ⟨.ascii (by decide), .inr ⟨_, _, rfl, .inr rfl⟩, fun p => rfl, by decide⟩
  split
  · exact ⟨.ascii (by decide), .inr ⟨_, _, rfl, .inl rfl⟩, fun p => rfl, by decide⟩
  · exact tailOk_nil
/-- A row that is laid of these pieces. -/
theorem row_fill (pre : List (List UInt8)) (b : List UInt8) (x : It) (its : List (List UInt8 × It)) (q : Nat) (hp : PreOk pre) (hb : ∀ c ∈ b, c = 32 ∨ c = 9) (hx : x.ok) (hi : ItsOk its) : (⟨pre, b, x, its, tailT q⟩ : Row).Ok := ⟨hp, hb, hx, hi, tail_ok q⟩
theorem row_text (pre : List (List UInt8)) (b : List UInt8) (x : It) (its : List (List UInt8 × It)) (t : List UInt8) : textOf (⟨pre, b, x, its, t⟩ : Row).lines = textOf pre ++ b ++ x.text ++ (its.flatMap fun p => p.1 ++ p.2.text) ++ t ++ [10] := by
  rw [Row.lines, textOf_append, textOf_cons]
  simp [Row.line, lineOf, textOf]

/-! ### raw and pick -/
def I64 (a : Int) : Prop := -9223372036854775808 ≤ a ∧ a ≤ 9223372036854775807
/-- Numbers that can be read. -/
def IntsAt (w : World) (A : Option Addr) (m : Nat) (f : Nat → Int) : Prop := (∀ k, I64 (f k)) ∧ (m = 0 ∨ ∃ b o, A = some ⟨b, o, none⟩ ∧ ∀ k < m, w.cell? ⟨b, o + k, none⟩ = some (.int .i64 (f k)))
theorem IntsAt.grow {w w' : World} {A : Option Addr} {m : Nat} {f : Nat → Int} (h : IntsAt w A m f) (g : Gr w w') : IntsAt w' A m f := by
  refine ⟨h.1, ?_⟩
  rcases h.2 with h0 | ⟨b, o, hA, hc⟩
  · exact .inl h0
  · exact .inr ⟨b, o, hA, fun k hk => g.cell (hc k hk)⟩
def rawOf (m : Nat) (f : Nat → Int) (i : Nat) : Int := if m = 0 then 0 else f (i % m)
theorem raw_any (A : Option Addr) (m c i : Nat) (f : Nat → Int) (w : World) (hI : IntsAt w A m f) (hm : m ≤ maxLen) (hi : i ≤ 1000000) :
    Calls Tryz.prog 41 #[.slice A m c, .int .i64 i] w fun e w' => e = .returned (.int .i64 (rawOf m f i)) ∧ w' = w := by
  unfold maxLen at hm
  unfold rawOf
  by_cases h0 : m = 0
  · subst h0
    rw [if_pos rfl]
    go_enter Tryz.func41, Tryz.ntmps41
    go_wp2
    go_ret
    exact ⟨rfl, rfl⟩
  · rw [if_neg h0]
    obtain ⟨b, o, rfl, hc⟩ : ∃ b o, A = some ⟨b, o, none⟩ ∧ ∀ k < m, w.cell? ⟨b, o + k, none⟩ = some (.int .i64 (f k)) := by
      rcases hI.2 with h | h
      · exact absurd h h0
      · exact h
    obtain ⟨j, hj⟩ : ∃ j, i % m = j := ⟨_, rfl⟩
    have hjm : j < m := by rw [← hj]; exact Nat.mod_lt _ (by omega)
    have hcj := hc j hjm
    rw [hj]
    have e1 : (i : Int) % (m : Int) = (j : Int) := by rw [← hj]; rfl
    have e2 : ((m : Int) == 0) = false := beq_eq_false_iff_ne.2 (by omega)
    have e3 : ¬ (m : Int) = 0 := by omega
    have e4 : (i : Int).tmod (m : Int) = (j : Int) := by rw [Int.tmod_eq_emod_of_nonneg (by omega), e1]
    clear hc hI hj
    go_enter Tryz.func41, Tryz.ntmps41
    go_wp2
    go_ret
    exact ⟨rfl, rfl⟩
/-- Which of n things a number speaks of. -/
def pickOf (c : Int) (n : Nat) : Nat := ((if c < 0 then -(c + 1) else c) % (n : Int)).toNat
theorem pickOf_lt {c : Int} {n : Nat} (hn : 0 < n) : pickOf c n < n := by
  unfold pickOf
  have h1 := Int.emod_lt_of_pos (if c < 0 then -(c + 1) else c) (show (0 : Int) < n by omega)
  have h2 := Int.emod_nonneg (if c < 0 then -(c + 1) else c) (show (n : Int) ≠ 0 by omega)
  omega
theorem pickOf_int {c : Int} {n : Nat} (hn : 0 < n) : ((pickOf c n : Nat) : Int) = (if c < 0 then -(c + 1) else c) % (n : Int) := by
  unfold pickOf
  exact Int.toNat_of_nonneg (Int.emod_nonneg _ (by omega))
theorem pick_det (c : Int) (n : Nat) (w : World) (hn : 0 < n) (hn2 : n ≤ 1000) (hc : I64 c) :
    Calls Tryz.prog 19 #[.int .i64 c, .int .i64 n] w fun e w' => e = .returned (.int .i64 (pickOf c n)) ∧ w' = w := by
  obtain ⟨hc1, hc2⟩ := hc
  rw [pickOf_int hn]
  by_cases h0 : c < 0
  · rw [if_pos h0]
    have h1 : decide (c < 0) = true := decide_eq_true h0
    obtain ⟨d, hd⟩ : ∃ d : Int, -(c + 1) = d := ⟨_, rfl⟩
    have e1 : IntKind.i64.wrap (c + 1) = c + 1 := IntWalk.i64_in _ (by omega)
    have hd0 : 0 ≤ d ∧ d ≤ 9223372036854775807 := by omega
    have Hd := Lib.hid hd
    rw [hd]
    clear hd e1
    go_enter Tryz.func19, Tryz.ntmps19
    go_wp2
    go_ret
    refine ⟨?_, rfl⟩
    rw [← Hd.out]
    show Ending.returned (.int .i64 (-((c + 1).tmod n))) = _
    rw [← Int.neg_tmod, Int.tmod_eq_emod_of_nonneg (by omega)]
  · rw [if_neg h0]
    have h1 : decide (c < 0) = false := decide_eq_false h0
    go_enter Tryz.func19, Tryz.ntmps19
    go_wp2
    go_ret
    exact ⟨rfl, rfl⟩
theorem rawOf_range {w : World} {A : Option Addr} {m : Nat} {f : Nat → Int} (h : IntsAt w A m f) (i : Nat) : I64 (rawOf m f i) := by
  unfold rawOf
  split
  · exact ⟨by omega, by omega⟩
  · exact h.1 _

theorem own_cell {w : World} {B n e : Nat} {v u : Value} {xs : List Value} {k : Nat} (h : w.ownsRow B e 1 v n xs) (hk : xs[k]? = some u) : ∃ g cap, v = .slice (some ⟨g, 0, none⟩) n cap ∧ w.cell? ⟨g, k, none⟩ = some u := by
  have hlt := (List.getElem?_eq_some_iff.1 hk).1
  have hx := h.1
  rcases h.2 with ⟨_, h0⟩ | ⟨g, cap, cur, rfl, hb, hg, hn, hc, hcur, htk⟩
  · omega
  · refine ⟨g, cap, rfl, ?_⟩
    rw [← htk, List.getElem?_take] at hk
    split at hk
    · simp only [World.cell?, hg, Option.isSome_none, Bool.false_eq_true, if_false]
      rw [← Array.getElem?_toList]; exact hk
    · cases hk
/-- What a row is to be, that words are laid of. -/
structure RowMay (r : List It) : Prop where
  ne : r ≠ []
  len : r.length ≤ 6
  ok : ∀ x ∈ r, x.ok ∧ x.text.length ≤ 210
/-- What is laid of some words. -/
def Body (l : List It) (b : List UInt8) : Prop := (l = [] ∧ b = []) ∨ ∃ x its, x :: its.map (·.2) = l ∧ x.ok ∧ ItsOk its ∧ b = x.text ++ its.flatMap fun p => p.1 ++ p.2.text
theorem Body.one {x : It} (h : x.ok) : Body [x] x.text := .inr ⟨x, [], rfl, h, ⟨(by intro p hp; cases hp), (by intro p hp; cases hp), (by intro p hp; cases hp)⟩, by simp⟩
theorem Body.more {l : List It} {b : List UInt8} {x : It} (h : Body l b) (hl : l ≠ []) (hx : x.ok) (q : Nat) : Body (l ++ [x]) (b ++ blankT q ++ x.text) := by
  rcases h with ⟨h0, _⟩ | ⟨y, its, hy, hyo, hi, hb⟩
  · exact absurd h0 hl
  · refine .inr ⟨y, its ++ [(blankT q, x)], by rw [← hy]; simp, hyo, ⟨?_, ?_, ?_⟩, by rw [hb]; simp⟩
    · intro p hp
      rcases List.mem_append.1 hp with hp | hp
      · exact hi.blank p hp
      · simp only [List.mem_cons, List.not_mem_nil, or_false] at hp; subst hp; exact (blank_ok q).1
    · intro p hp
      rcases List.mem_append.1 hp with hp | hp
      · exact hi.some_ p hp
      · simp only [List.mem_cons, List.not_mem_nil, or_false] at hp; subst hp; exact (blank_ok q).2
    · intro p hp
      rcases List.mem_append.1 hp with hp | hp
      · exact hi.ok p hp
      · simp only [List.mem_cons, List.not_mem_nil, or_false] at hp; subst hp; exact hx
/-- A text that is laid of rows. -/
def LaidText (rows : List (List It)) (t : List UInt8) : Prop := ∃ rs : List Row, rs.map Row.items = rows ∧ (∀ x ∈ rs, x.Ok) ∧ t = textOf (rs.flatMap Row.lines)
theorem LaidText.add {rows : List (List It)} {t b : List UInt8} {r : List It} (h : LaidText rows t) (hr : r ≠ []) (hb : Body r b) (q1 q2 q3 : Nat) : LaidText (rows ++ [r]) (t ++ noneT q1 ++ freeT q2 ++ b ++ tailT q3 ++ [10]) := by
  obtain ⟨rs, h1, h2, h3⟩ := h
  rcases hb with ⟨h0, _⟩ | ⟨x, its, hx, hxo, hi, hb⟩
  · exact absurd h0 hr
  · obtain ⟨pre, hp, hpo⟩ := none_pre q1
    refine ⟨rs ++ [⟨pre, freeT q2, x, its, tailT q3⟩], by rw [List.map_append, h1, ← hx]; rfl, ?_, ?_⟩
    · intro y hy
      rcases List.mem_append.1 hy with hy | hy
      · exact h2 y hy
      · simp only [List.mem_cons, List.not_mem_nil, or_false] at hy; subst hy
        exact row_fill pre _ x its q3 hpo (free_ok q2) hxo hi
    · rw [List.flatMap_append, textOf_append, ← h3, List.flatMap_cons, List.flatMap_nil, List.append_nil, row_text, hp, hb]
      simp
theorem noneT_len (q : Nat) : (noneT q).length ≤ 8 := by
  unfold noneT; repeat' split
  all_goals decide
theorem freeT_len (q : Nat) : (freeT q).length ≤ 1 := by
  unfold freeT; repeat' split
  all_goals decide
theorem blankT_len (q : Nat) : (blankT q).length ≤ 3 := by
  unfold blankT; repeat' split
  all_goals decide
theorem tailT_len (q : Nat) : (tailT q).length ≤ 9 := by
  unfold tailT; repeat' split
  all_goals decide

def noneV : Array Value := #[.string ⟨#[]⟩, .string ⟨#[]⟩, .string ⟨#[10]⟩, .string ⟨#[35, 32, 99, 117, 116, 32, 120, 10]⟩, .string ⟨#[32, 9, 10]⟩, .string ⟨#[35, 34, 10, 10]⟩]
def freeV : Array Value := #[.string ⟨#[]⟩, .string ⟨#[]⟩, .string ⟨#[32]⟩, .string ⟨#[9]⟩]
def blankV : Array Value := #[.string ⟨#[32]⟩, .string ⟨#[32, 32]⟩, .string ⟨#[9]⟩, .string ⟨#[32, 9, 32]⟩]
def endV : Array Value := #[.string ⟨#[10]⟩, .string ⟨#[10]⟩, .string ⟨#[32, 35, 32, 102, 97, 100, 101, 32, 51, 10]⟩, .string ⟨#[9, 10]⟩, .string ⟨#[32, 35, 10]⟩]
theorem piece_cell {w : World} {b q : Nat} {cur : Array Value} {s : ByteArray} (h : w.heap[b]? = some (.cells cur 9 (0, 0))) (hq : cur[q]? = some (.string s)) : w.cell? ⟨b, q, none⟩ = some (.string s) := by
  simp only [World.cell?, h, Option.isSome_none, Bool.false_eq_true, if_false]; exact hq
theorem none_cell {w : World} {b q : Nat} (h : w.heap[b]? = some (.cells noneV 9 (0, 0))) (hq : q < 6) : w.cell? ⟨b, q, none⟩ = some (.string (ba (noneT q))) := by
  refine piece_cell h ?_
  rcases (show q = 0 ∨ q = 1 ∨ q = 2 ∨ q = 3 ∨ q = 4 ∨ q = 5 by omega) with rfl | rfl | rfl | rfl | rfl | rfl <;> rfl
theorem free_cell {w : World} {b q : Nat} (h : w.heap[b]? = some (.cells freeV 9 (0, 0))) (hq : q < 4) : w.cell? ⟨b, q, none⟩ = some (.string (ba (freeT q))) := by
  refine piece_cell h ?_
  rcases (show q = 0 ∨ q = 1 ∨ q = 2 ∨ q = 3 by omega) with rfl | rfl | rfl | rfl <;> rfl
theorem blank_cell {w : World} {b q : Nat} (h : w.heap[b]? = some (.cells blankV 9 (0, 0))) (hq : q < 4) : w.cell? ⟨b, q, none⟩ = some (.string (ba (blankT q))) := by
  refine piece_cell h ?_
  rcases (show q = 0 ∨ q = 1 ∨ q = 2 ∨ q = 3 by omega) with rfl | rfl | rfl | rfl <;> rfl
theorem end_cell {w : World} {b q : Nat} (h : w.heap[b]? = some (.cells endV 9 (0, 0))) (hq : q < 5) : w.cell? ⟨b, q, none⟩ = some (.string (ba (tailT q ++ [10]))) := by
  refine piece_cell h ?_
  rcases (show q = 0 ∨ q = 1 ∨ q = 2 ∨ q = 3 ∨ q = 4 by omega) with rfl | rfl | rfl | rfl | rfl <;> rfl

set_option maxRecDepth 100000 in
set_option maxHeartbeats 800000 in
theorem filled_any (w0 w : World) (v : Value) (rows : List (List It)) (us : List Value) (A : Option Addr) (m c : Nat) (f : Nat → Int) (hI : LInv w0 w v rows us) (hF : IntsAt w A m f) (hm : m ≤ maxLen) (h0 : 0 < rows.length) (h1 : rows.length ≤ 201) (hr : ∀ r ∈ rows, RowMay r) :
    Calls Tryz.prog 16 #[v, .slice A m c] w fun e w' => (∃ s, e = .returned (.string s) ∧ LaidText rows (bl s)) ∧ Gr w w' := by
  have hul : us.length = rows.length := by have := hI.own.1; omega
  obtain ⟨gl, capl, rfl⟩ := own_form hI.own h0
  obtain ⟨R, hR⟩ : ∃ R, rows.length = R := ⟨_, rfl⟩
  rw [hR] at h0 h1 hul ⊢
  -- the k-th row: its cell, its words' cells
  have hrow : ∀ k r, rows[k]? = some r → ∃ gr capr, w.cell? ⟨gl, k, none⟩ = some (.slice (some ⟨gr, 0, none⟩) r.length capr) ∧ ∀ i x, r[i]? = some x → w.cell? ⟨gr, i, none⟩ = some (.string (ba x.text)) := by
    intro k r hk
    have hkl := (List.getElem?_eq_some_iff.1 hk).1
    obtain ⟨u, hu⟩ : ∃ u, us[k]? = some u := ⟨_, List.getElem?_eq_getElem (by omega)⟩
    obtain ⟨g, cap, hv, hc⟩ := own_cell hI.own hu
    have hg : g = gl := by injection hv with h; injection h with h; injection h with h; exact h.symm
    subst hg
    have ho := hI.rows k u r hu hk
    have hne := (hr r (List.mem_of_getElem? hk)).ne
    obtain ⟨gr, capr, rfl⟩ := own_form ho (by cases r with | nil => exact absurd rfl hne | cons => simp)
    refine ⟨gr, capr, hc, fun i x hx => ?_⟩
    obtain ⟨g', cap', hv', hc'⟩ := own_cell ho (show (strs r)[i]? = some (.string (ba x.text)) by rw [strs, List.getElem?_map, hx]; rfl)
    have hg : g' = gr := by injection hv' with h; injection h with h; injection h with h; exact h.symm
    subst hg
    exact hc'
  have Hrow := Lib.hid hrow
  have Hraw := Lib.hid (fun w1 (g : Gr w w1) i (hi : i ≤ 1000000) => raw_any A m c i f w1 (hF.grow g) hm hi)
  have Hrng := Lib.hid (fun i => rawOf_range hF i)
  have Hpick := Lib.hid (fun i n w1 (h0 : 0 < n) (h1 : n ≤ 1000) => pick_det (rawOf m f i) n w1 h0 h1 (rawOf_range hF i))
  have Hmay := Lib.hid hr
  have HR := Lib.hid hR
  have hsizes : ∀ a b : ByteArray, (a ++ b).size = a.size + b.size := fun a b => ByteArray.size_append
  clear hI hul hrow hF hm hr hR
  go_enter Tryz.func16, Tryz.ntmps16
  go_wp2
  obtain ⟨W4, hW4⟩ : ∃ W4, ((((w.alloc (.cells blankV 9)).alloc (.cells freeV 9)).alloc (.cells noneV 9)).alloc (.cells endV 9)) = W4 := ⟨_, rfl⟩
  have hB4 : Gr w W4 := by rw [← hW4]; exact ((((Gr.refl w).alloc _).alloc _).alloc _).alloc _
  have k1 : W4.heap[w.heap.size]? = some (.cells blankV 9 (0, 0)) := by rw [← hW4]; exact heap_old (heap_old (heap_old (heap_new w _) _) _) _
  have k2 : W4.heap[w.heap.size + 1]? = some (.cells freeV 9 (0, 0)) := by rw [← hW4]; exact heap_old (heap_old (heap_new_at (by simp) _) _) _
  have k3 : W4.heap[w.heap.size + 1 + 1]? = some (.cells noneV 9 (0, 0)) := by rw [← hW4]; exact heap_old (heap_new_at (by simp) _) _
  have k4 : W4.heap[w.heap.size + 1 + 1 + 1]? = some (.cells endV 9 (0, 0)) := by rw [← hW4]; exact heap_new_at (by simp) _
  have Hbl := Lib.hid (fun q (hq : q < 4) => blank_cell (w := W4) k1 hq)
  have Hfr := Lib.hid (fun q (hq : q < 4) => free_cell (w := W4) k2 hq)
  have Hno := Lib.hid (fun q (hq : q < 6) => none_cell (w := W4) k3 hq)
  have Hen := Lib.hid (fun q (hq : q < 5) => end_cell (w := W4) k4 hq)
  have HB4 := Lib.hid hB4
  unfold blankV freeV noneV endV at hW4
  rw [hW4]
  clear hW4 hB4 k1 k2 k3 k4
  go_loopg [9, 10, 11] R (fun g S n k wx => Gr W4 wx ∧ ∃ (kk nn : Nat) (T : ByteArray), kk + g = R ∧ nn ≤ 10 * kk ∧ S = .string T ∧ n = .int .i64 nn ∧ k = .int .i64 kk ∧ T.size ≤ 2000 * kk ∧ Hid (LaidText (rows.take kk) (bl T)))
  case atStart => exact ⟨Gr.refl _, 0, 0, _, by omega, by omega, rfl, rfl, rfl, by decide, Lib.hid ⟨[], rfl, (by intro x hx; cases hx), rfl⟩⟩
  case round =>
    obtain ⟨hG, kk, nn, T, hk, hnn, rfl, rfl, rfl, hT, HT⟩ := hrel
    have HG := Lib.hid hG
    by_cases hlt : kk < R
    · obtain ⟨r, hrk⟩ : ∃ r, rows[kk]? = some r := ⟨_, List.getElem?_eq_getElem (by rw [HR.out]; exact hlt)⟩
      have hmay := Hmay.out r (List.mem_of_getElem? hrk)
      have htake : rows.take (kk + 1) = rows.take kk ++ [r] := by rw [List.take_add_one, hrk]; rfl
      have Htake := Lib.hid htake
      obtain ⟨gr, capr, hrc, hrw⟩ := Hrow.out kk r hrk
      have hlen := hmay.len
      obtain ⟨L, hL⟩ : ∃ L, r.length = L := ⟨_, rfl⟩
      rw [hL] at hrc hlen
      have HL := Lib.hid hL
      have HM := Lib.hid hmay
      have Hrw := Lib.hid hrw
      have Hrc := Lib.hid (fun w1 (g : Gr W4 w1) => (HB4.out.trans g).cell hrc)
      -- the pieces ahead of the row
      obtain ⟨q1, hq1⟩ : ∃ q, pickOf (rawOf m f nn) 6 = q := ⟨_, rfl⟩
      obtain ⟨q2, hq2⟩ : ∃ q, pickOf (rawOf m f (nn + 1)) 4 = q := ⟨_, rfl⟩
      have hq1l : q1 < 6 := by rw [← hq1]; exact pickOf_lt (by omega)
      have hq2l : q2 < 4 := by rw [← hq2]; exact pickOf_lt (by omega)
      have P1 := Lib.hid (fun w1 => Hpick.out nn 6 w1 (by omega) (by omega))
      have P2 := Lib.hid (fun w1 => Hpick.out (nn + 1) 4 w1 (by omega) (by omega))
      rw [hq1] at P1
      rw [hq2] at P2
      have R1 := Lib.hid (fun w1 (g : Gr W4 w1) => Hraw.out w1 (HB4.out.trans g) nn (by omega))
      have R2 : Hid (∀ w1 : World, Gr W4 w1 → Calls Tryz.prog 41 #[.slice A m c, .int .i64 ((nn : Int) + 1)] w1 fun e w' => e = .returned (.int .i64 (rawOf m f (nn + 1))) ∧ w' = w1) := Lib.hid (fun w1 (g : Gr W4 w1) => Hraw.out w1 (HB4.out.trans g) (nn + 1) (by omega))
      obtain ⟨x1, hx1⟩ : ∃ x, rawOf m f nn = x := ⟨_, rfl⟩
      obtain ⟨x2, hx2⟩ : ∃ x, rawOf m f (nn + 1) = x := ⟨_, rfl⟩
      rw [hx1] at P1 R1
      rw [hx2] at P2 R2
      have c1 := hG.cell (Hno.out q1 hq1l)
      have c2 := hG.cell (Hfr.out q2 hq2l)
      obtain ⟨N1, hN1⟩ : ∃ N, ba (noneT q1) = N := ⟨_, rfl⟩
      obtain ⟨F1, hF1⟩ : ∃ N, ba (freeT q2) = N := ⟨_, rfl⟩
      have hN1s : N1.size ≤ 8 := by rw [← hN1, ba_sz]; exact noneT_len q1
      have hF1s : F1.size ≤ 1 := by rw [← hF1, ba_sz]; exact freeT_len q2
      rw [hN1] at c1
      rw [hF1] at c2
      have HN1 := Lib.hid hN1
      have HF1 := Lib.hid hF1
      clear hq1 hq2 hx1 hx2 hN1 hF1 hrw hmay htake hL hrk hrc hG
      go_wp2_with fail
      go_quiet (first | (go_at_call 41; with_reducible refine Calls.quiet_of_same (R1.out _ (HG.out.drewN _))) | (go_at_call 41; with_reducible refine Calls.quiet_of_same (R2.out _ (HG.out.drewN _))) | (go_at_call 19; with_reducible refine Calls.quiet_of_same (P1.out _)) | (go_at_call 19; with_reducible refine Calls.quiet_of_same (P2.out _)))
      obtain ⟨w5, hw5⟩ : ∃ w5, wr.drewN nq = w5 := ⟨_, rfl⟩
      have HG5 := Lib.hid (show Gr W4 w5 by rw [← hw5]; exact HG.out.drewN _)
      rw [hw5]
      obtain ⟨T5, hT5⟩ : ∃ T5, T ++ N1 ++ F1 = T5 := ⟨_, rfl⟩
      have hT5s : T5.size ≤ 2000 * kk + 9 := by rw [← hT5, hsizes, hsizes]; omega
      have HT5 := Lib.hid (show bl T5 = bl T ++ noneT q1 ++ freeT q2 by rw [← hT5, bl_app, bl_app, ← HN1.out, ← HF1.out, bl_ba, bl_ba])
      rw [hT5]
      obtain ⟨og, rfl⟩ : ∃ og, gk = og + 1 := ⟨gk - 1, by omega⟩
      clear hw5 hT5 c1 c2 hN1s hF1s hT R1 R2 P1 P2 HG
      go_wp2
      go_loopg [9, 10, 12] L (fun g S n i wx => Gr W4 wx ∧ ∃ (ii n2 : Nat) (S5 : ByteArray), ii + g = L ∧ n2 ≤ nn + 2 + ii ∧ S = .string S5 ∧ n = .int .i64 n2 ∧ i = .int .i64 ii ∧ S5.size ≤ 2000 * kk + 9 + 220 * ii ∧ Hid (∃ b, Body (r.take ii) b ∧ bl S5 = bl T5 ++ b))
      case atStart => exact ⟨HG5.out, 0, nn + 2, T5, by omega, by omega, rfl, by go_num, rfl, by omega, Lib.hid ⟨[], .inl ⟨rfl, rfl⟩, by simp⟩⟩
      case round =>
        obtain ⟨hGx, ii, n2, S5, hii, hn2, rfl, rfl, rfl, hS5, HS5⟩ := hrel
        have HGx := Lib.hid hGx
        have crow := Hrc.out _ hGx
        by_cases hlt2 : ii < L
        · obtain ⟨x, hx⟩ : ∃ x, r[ii]? = some x := ⟨_, List.getElem?_eq_getElem (by rw [HL.out]; exact hlt2)⟩
          have cx := (HB4.out.trans hGx).cell (Hrw.out ii x hx)
          have hxm := HM.out.ok x (List.mem_of_getElem? hx)
          obtain ⟨X, hX⟩ : ∃ X, ba x.text = X := ⟨_, rfl⟩
          have hXs : X.size ≤ 210 := by rw [← hX, ba_sz]; exact hxm.2
          have HX := Lib.hid (show bl X = x.text by rw [← hX, bl_ba])
          have Hxo := Lib.hid hxm.1
          have htk : r.take (ii + 1) = r.take ii ++ [x] := by rw [List.take_add_one, hx]; rfl
          have Htk := Lib.hid htk
          rw [hX] at cx
          clear hxm hX htk hx hGx
          by_cases hi0 : ii = 0
          · subst hi0
            go_wp2
            go_roundg (gk - 1)
            case measure => omega
            case rel =>
              refine ⟨HGx.out, 1, n2, S5 ++ X, by omega, by omega, rfl, rfl, by go_num, by rw [hsizes]; omega, Lib.hid ?_⟩
              obtain ⟨b, hb, hbs⟩ := HS5.out
              have hb0 : b = [] := by
                rcases hb with ⟨_, h⟩ | ⟨y, its, h, _⟩
                · exact h
                · simp at h
              refine ⟨x.text, ?_, by rw [bl_app, hbs, hb0, HX.out, List.append_nil]⟩
              rw [Htk.out]
              exact Body.one Hxo.out
          · have hip : 0 < ii := by omega
            obtain ⟨q, hq⟩ : ∃ q, pickOf (rawOf m f n2) 4 = q := ⟨_, rfl⟩
            have hql : q < 4 := by rw [← hq]; exact pickOf_lt (by omega)
            have P := Lib.hid (fun w1 => Hpick.out n2 4 w1 (by omega) (by omega))
            rw [hq] at P
            have R1 := Lib.hid (fun w1 (g : Gr W4 w1) => Hraw.out w1 (HB4.out.trans g) n2 (by omega))
            obtain ⟨x1, hx1⟩ : ∃ x, rawOf m f n2 = x := ⟨_, rfl⟩
            rw [hx1] at P R1
            have cb := HGx.out.cell (Hbl.out q hql)
            obtain ⟨B1, hB1⟩ : ∃ N, ba (blankT q) = N := ⟨_, rfl⟩
            have hB1s : B1.size ≤ 3 := by rw [← hB1, ba_sz]; exact blankT_len q
            have HB1 := Lib.hid (show bl B1 = blankT q by rw [← hB1, bl_ba])
            rw [hB1] at cb
            clear hq hx1 hB1
            go_wp2_with fail
            refine (R1.out _ HGx.out).mono ?_
            rintro e w6 ⟨rfl, rfl⟩
            go_wp2_with fail
            refine (P.out _).mono ?_
            rintro e w6 ⟨rfl, rfl⟩
            go_wp2
            go_roundg (gk - 1)
            case measure => omega
            case rel =>
              refine ⟨HGx.out, ii + 1, n2 + 1, S5 ++ B1 ++ X, by omega, by omega, rfl, by go_num, by go_num, by rw [hsizes, hsizes]; omega, Lib.hid ?_⟩
              obtain ⟨b, hb, hbs⟩ := HS5.out
              refine ⟨b ++ blankT q ++ x.text, ?_, by rw [bl_app, bl_app, hbs, HB1.out, HX.out]; simp⟩
              rw [Htk.out]
              refine Body.more hb ?_ Hxo.out q
              intro h
              have := congrArg List.length h
              rw [List.length_take, HL.out, List.length_nil] at this
              omega
        · obtain rfl : ii = L := by omega
          have hfull : r.take ii = r := List.take_of_length_le (by rw [HL.out]; exact Nat.le_refl _)
          have Hfull := Lib.hid hfull
          obtain ⟨q, hq⟩ : ∃ q, pickOf (rawOf m f n2) 5 = q := ⟨_, rfl⟩
          have hql : q < 5 := by rw [← hq]; exact pickOf_lt (by omega)
          have P := Lib.hid (fun w1 => Hpick.out n2 5 w1 (by omega) (by omega))
          rw [hq] at P
          have R1 := Lib.hid (fun w1 (g : Gr W4 w1) => Hraw.out w1 (HB4.out.trans g) n2 (by omega))
          obtain ⟨x1, hx1⟩ : ∃ x, rawOf m f n2 = x := ⟨_, rfl⟩
          rw [hx1] at P R1
          have cb := HGx.out.cell (Hen.out q hql)
          obtain ⟨B1, hB1⟩ : ∃ N, ba (tailT q ++ [10]) = N := ⟨_, rfl⟩
          have hB1s : B1.size ≤ 10 := by
            rw [← hB1, ba_sz, List.length_append]
            have := tailT_len q
            show _ + 1 ≤ _
            omega
          have HB1 := Lib.hid (show bl B1 = tailT q ++ [10] by rw [← hB1, bl_ba])
          rw [hB1] at cb
          clear hq hx1 hB1 hfull hGx
          go_wp2_with fail
          refine (R1.out _ HGx.out).mono ?_
          rintro e w6 ⟨rfl, rfl⟩
          go_wp2_with fail
          refine (P.out _).mono ?_
          rintro e w6 ⟨rfl, rfl⟩
          go_wp2
          go_roundg og
          case measure => omega
          case rel =>
            refine ⟨HGx.out, kk + 1, n2 + 1, S5 ++ B1, by omega, by omega, rfl, by go_num, by go_num, by rw [hsizes]; omega, Lib.hid ?_⟩
            obtain ⟨b, hb, hbs⟩ := HS5.out
            rw [Hfull.out] at hb
            have := HT.out.add HM.out.ne hb q1 q2 q
            rw [Htake.out, bl_app, hbs, HB1.out, HT5.out]
            rw [← List.append_assoc]
            exact this
    · obtain rfl : kk = R := by omega
      have hfull : rows.take kk = rows := List.take_of_length_le (by rw [HR.out]; exact Nat.le_refl _)
      have h := HT.out
      rw [hfull] at h
      have HL := Lib.hid h
      clear h hfull hG
      go_wp2
      go_ret
      exact ⟨⟨T, rfl, HL.out⟩, HB4.out.trans HG.out⟩
end Go.Proofs.Cuts
