/- errors.Is of an *agg.Overflow against api.ErrOverflow: true. -/
import Derived.Test.YtheimbhnckaonaaAggC
import Derived.LaidEql
import Derived.Stop.Asserts
import Derived.RowKitTokens
import Derived.Lib.IfaceEq
set_option linter.unusedVariables false
set_option linter.unusedSimpArgs false
namespace Go.Proofs.Ytheimbhnckaonaa
open Go.RowKit Go.Extern.Stop Go.Stop Go.Extern

theorem isTypeOf (v : Value) (w : World) : (Extern.ReflectliteType.typeOf #[.iface 27 v]).run Try.prog w = .ok (.iface 143 (.agg #[.pointer (some ⟨1, 27, none⟩)])) w := by kernel_rfl
theorem isComparable (w : World) : ((Extern.ReflectliteType.method fun t => do Extern.Rtype.noPackHeld "Comparable" t; (fun a => Value.bool a.comparable) <$> typeInfo t) #[.agg #[.pointer (some ⟨1, 27, none⟩)]]).run Try.prog w = .ok (.bool true) w := by kernel_rfl
theorem isMethodComparable (v : Value) (w : World) : (Go.method 311 143 v "Comparable").run Try.prog w = .ok (132, v) w := by kernel_rfl
theorem noIsO (v : Value) (xT : TypeId) (w : World) : (Instr.typeAssert (.iface 173 v) xT 145 true).run Try.prog w = .ok (.tuple #[.nilIface, .bool false]) w := run_typeAssert_lacksB Try.underlying145 (by kernel_rfl) (by kernel_rfl) v xT w
theorem hasUnwrapO (v : Value) (xT : TypeId) (w : World) : (Instr.typeAssert (.iface 173 v) xT 148 true).run Try.prog w = .ok (.tuple #[.iface 173 v, .bool true]) w := run_typeAssert_hasB Try.underlying148 (by kernel_rfl) v xT w
theorem methodUnwrapO (v : Value) (w : World) : (Go.method 311 173 v "Unwrap").run Try.prog w = .ok (142, v) w := by kernel_rfl

theorem unwrapO (v : Value) (w : World) : Calls Try.prog 142 #[v] w fun e w' => e = .returned (.iface 27 (.int .i64 25)) ∧ w' = w := by
  go_enter Try.func142, Try.ntmps142
  go_wp2
  go_ret
  exact ⟨rfl, rfl⟩

set_option maxHeartbeats 4000000 in
set_option maxRecDepth 100000 in
theorem is_over (g : Nat) (w : World) :
    Calls Try.prog 42 #[.iface 173 (.pointer (some ⟨g, 0, none⟩)), .iface 27 (.int .i64 25)] w fun e w' => e = .returned (.bool true) ∧ Below w.heap.size w w' := by
  have h8 := @run_callFunc_extern Try.prog 72 _ Extern.ReflectliteType.typeOf Try.func72 (by kernel_rfl) (by kernel_rfl) (by kernel_rfl) (by kernel_rfl)
  have h32 := @run_callFunc_extern Try.prog 132 _ (Extern.ReflectliteType.method fun t => do Extern.Rtype.noPackHeld "Comparable" t; pure (.bool (← typeInfo t).comparable)) Try.func132 (by kernel_rfl) (by kernel_rfl) (by kernel_rfl) (by kernel_rfl)
  have tT := isTypeOf
  have cT := isComparable
  have mR := isMethodComparable
  have nW := noIsO
  have uW := hasUnwrapO
  have mU := methodUnwrapO
  have hty := run_eql_iface_types (P := Try.prog) 173 27 (.pointer (some ⟨g, 0, none⟩)) (.int .i64 25) Try.underlying76 (by decide)
  have hun := unwrapO
  have hsame : ∀ W : World, (binOp .eql 76 (.iface 27 (.int .i64 25)) (.iface 27 (.int .i64 25))).run Try.prog W = .ok (.bool true) W := fun W => by kernel_rfl
  go_enter Try.func42, Try.ntmps42
  go_wp2
  refine wp_loop_rounds 2 ?_
  rw [rounds_succ]
  go_wp2_with (go_at_call 142; refine (hun _ _).mono ?_; rintro e w' ⟨rfl, rfl⟩)
  rw [rounds_succ]
  go_wp2
  go_ret
  exact ⟨rfl, Below.refl _ _⟩
end Go.Proofs.Ytheimbhnckaonaa
