/-
  errors.Is and errors.As of an error that is a pointer to a fault (a place, a number) or to an event's error (an event, a number). Conditions: the pointer's two cells lie in the world; As: the target's variable lies there and may be written, the listed errors.errorType.
-/
import Derived.Test.YtgimedhfhpiipaaGreatDoorBase
import Derived.LaidEql
import Derived.Lib.IfaceEq
import Derived.Stop.Asserts
import Derived.RowKitTokens
namespace Go.Proofs.Cuts
open Go.RowKit Go.Extern.Stop Go.Stop Go.Extern

theorem callComparable (w : World) : (callFunc 173 #[.agg #[.pointer (some ⟨15, 35, none⟩)]]).run Tryz.prog w = .ok (.value (.bool true)) w := by kernel_rfl
theorem callTypeOf (v : Value) (w : World) : (callFunc 52 #[.iface 35 v]).run Tryz.prog w = .ok (.value (.iface 163 (.agg #[.pointer (some ⟨15, 35, none⟩)]))) w := by kernel_rfl
theorem mComparable (h : Value) (w : World) : (Go.method 364 163 (.agg #[h]) "Comparable").run Tryz.prog w = .ok (173, .agg #[h]) w := by kernel_rfl
theorem mUnwrapF (v : Value) (w : World) : (Go.method 364 82 v "Unwrap").run Tryz.prog w = .ok (166, v) w := by kernel_rfl
theorem mUnwrapE (v : Value) (w : World) : (Go.method 364 99 v "Unwrap").run Tryz.prog w = .ok (47, v) w := by kernel_rfl
theorem isComp : (Tryz.prog.info? 35).map (·.comparable) = some true := by kernel_rfl
theorem noIsN (v : Value) (xT : TypeId) (w : World) : (Instr.typeAssert (.iface 35 v) xT 165 true).run Tryz.prog w = .ok (.tuple #[.nilIface, .bool false]) w := run_typeAssert_lacksB Tryz.underlying165 (by kernel_rfl) (by kernel_rfl) v xT w
theorem noUnwrapN (v : Value) (xT : TypeId) (w : World) : (Instr.typeAssert (.iface 35 v) xT 168 true).run Tryz.prog w = .ok (.tuple #[.nilIface, .bool false]) w := run_typeAssert_lacksB Tryz.underlying168 (by kernel_rfl) (by kernel_rfl) v xT w
theorem noUnwrapsN (v : Value) (xT : TypeId) (w : World) : (Instr.typeAssert (.iface 35 v) xT 169 true).run Tryz.prog w = .ok (.tuple #[.nilIface, .bool false]) w := run_typeAssert_lacksB Tryz.underlying169 (by kernel_rfl) (by kernel_rfl) v xT w
theorem noIsF (v : Value) (xT : TypeId) (w : World) : (Instr.typeAssert (.iface 82 v) xT 165 true).run Tryz.prog w = .ok (.tuple #[.nilIface, .bool false]) w := run_typeAssert_lacksB Tryz.underlying165 (by kernel_rfl) (by kernel_rfl) v xT w
theorem hasUnwrapF (v : Value) (xT : TypeId) (w : World) : (Instr.typeAssert (.iface 82 v) xT 168 true).run Tryz.prog w = .ok (.tuple #[.iface 82 v, .bool true]) w := run_typeAssert_hasB Tryz.underlying168 (by kernel_rfl) v xT w
theorem noIsE (v : Value) (xT : TypeId) (w : World) : (Instr.typeAssert (.iface 99 v) xT 165 true).run Tryz.prog w = .ok (.tuple #[.nilIface, .bool false]) w := run_typeAssert_lacksB Tryz.underlying165 (by kernel_rfl) (by kernel_rfl) v xT w
theorem hasUnwrapE (v : Value) (xT : TypeId) (w : World) : (Instr.typeAssert (.iface 99 v) xT 168 true).run Tryz.prog w = .ok (.tuple #[.iface 99 v, .bool true]) w := run_typeAssert_hasB Tryz.underlying168 (by kernel_rfl) v xT w

set_option maxRecDepth 100000 in
theorem is_fault (b : Nat) (e t : Int) (w : World) (h1 : w.cell? ⟨b, 1, none⟩ = some (.int .i64 e)) :
    Calls Tryz.prog 22 #[.iface 82 (.pointer (some ⟨b, 0, none⟩)), .iface 35 (.int .i64 t)] w fun r w' => r = .returned (.bool (e == t)) ∧ w' = w := by
  have k52 := callTypeOf
  have k173 := callComparable
  have mC := mComparable
  have mU := mUnwrapF
  have nF := noIsF
  have uF := hasUnwrapF
  have nN := noIsN
  have uN := noUnwrapN
  have vN := noUnwrapsN
  have heq := Lib.run_eql_iface_int (P := Tryz.prog) w (k := .i64) e t Tryz.underlying32 isComp Tryz.underlying35
  have hty := run_eql_iface_types (P := Tryz.prog) 82 35 (.pointer (some ⟨b, 0, none⟩)) (.int .i64 t) Tryz.underlying32 (by decide) w
  cases het : (e == t) with
  | true =>
    rw [het] at heq
    clear het
    go_enter Tryz.func22, Tryz.ntmps22
    go_wp2
    refine wp_loop_rounds 2 ?_
    rw [rounds_succ]
    go_wp2
    rw [rounds_succ]
    go_wp2
    go_ret
    exact ⟨rfl, rfl⟩
  | false =>
    rw [het] at heq
    clear het
    go_enter Tryz.func22, Tryz.ntmps22
    go_wp2
    refine wp_loop_rounds 2 ?_
    rw [rounds_succ]
    go_wp2
    rw [rounds_succ]
    go_wp2
    go_ret
    exact ⟨rfl, rfl⟩

set_option maxRecDepth 100000 in
theorem is_event (b : Nat) (e t : Int) (w : World) (h1 : w.cell? ⟨b, 1, none⟩ = some (.int .i64 e)) :
    Calls Tryz.prog 22 #[.iface 99 (.pointer (some ⟨b, 0, none⟩)), .iface 35 (.int .i64 t)] w fun r w' => r = .returned (.bool (e == t)) ∧ w' = w := by
  have k52 := callTypeOf
  have k173 := callComparable
  have mC := mComparable
  have mU := mUnwrapE
  have nF := noIsE
  have uF := hasUnwrapE
  have nN := noIsN
  have uN := noUnwrapN
  have vN := noUnwrapsN
  have heq := Lib.run_eql_iface_int (P := Tryz.prog) w (k := .i64) e t Tryz.underlying32 isComp Tryz.underlying35
  have hty := run_eql_iface_types (P := Tryz.prog) 99 35 (.pointer (some ⟨b, 0, none⟩)) (.int .i64 t) Tryz.underlying32 (by decide) w
  cases het : (e == t) with
  | true =>
    rw [het] at heq
    clear het
    go_enter Tryz.func22, Tryz.ntmps22
    go_wp2
    refine wp_loop_rounds 2 ?_
    rw [rounds_succ]
    go_wp2
    rw [rounds_succ]
    go_wp2
    go_ret
    exact ⟨rfl, rfl⟩
  | false =>
    rw [het] at heq
    clear het
    go_enter Tryz.func22, Tryz.ntmps22
    go_wp2
    refine wp_loop_rounds 2 ?_
    rw [rounds_succ]
    go_wp2
    rw [rounds_succ]
    go_wp2
    go_ret
    exact ⟨rfl, rfl⟩

set_option maxRecDepth 100000 in
theorem is_nil (t : Value) (w : World) : Calls Tryz.prog 22 #[.nilIface, .iface 35 t] w fun r w' => r = .returned (.bool false) ∧ w' = w := by
  have hn := run_eql_iface_nil_left (P := Tryz.prog) w 35 t Tryz.underlying32
  go_enter Tryz.func22, Tryz.ntmps22
  go_wp2
  go_ret
  exact ⟨rfl, rfl⟩
end Go.Proofs.Cuts
