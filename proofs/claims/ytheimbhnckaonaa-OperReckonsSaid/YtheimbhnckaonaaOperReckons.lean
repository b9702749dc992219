/- OperReckons: the Go function 'spate/spatelaw14.OperReckons' returns true and its arguments read afterwards as before, in every world. Conditions: none. -/
import Derived.Test.YtheimbhnckaonaaFrame
import Derived.Test.YtheimbhnckaonaaReckW
import Derived.Lib.SmallJoins
set_option linter.unusedVariables false
namespace Go.Proofs.Ytheimbhnckaonaa.operReckons
open Go.ChangeShapes Go.WideShapes Go.ChangeAt Go.RowKit Go.ChangeMaps Go.Joins

theorem own : ownKnob Try.prog.godebug = none := by kernel_rfl

theorem wf64 {n : Int} (h : (Lit.int .i64 n).wf = true) : is64 n := by simpa [Lit.wf, IntKind.min, IntKind.max, IntKind.signed, IntKind.bits, is64] using h

set_option maxRecDepth 100000 in
theorem contract (H : Type) (enc : TypeId × Value → H) (W : World) (base : Nat) (args : Array Value) (ds gs : List (DataW H)) (before : List MemPlace)
    (hval : ∀ (j : Nat) t v, Try.f13.params[j]? = some t → args[j]? = some v → Value.okWide Try.prog W .any base t v)
    (hW : DataW.Whole enc Try.prog Try.f13.params.toList Rows.operReckonsSpec.vars false W args.toList ds gs before) :
    Calls Try.prog 13 args W fun e W' => ∃ v, e = .returned v ∧ Rows.operReckonsSpec.post enc Try.prog Try.f13 false true false false W args v W' := by
  have hW' := hW
  obtain ⟨p, q, hA0, hV, rfl, hfz, hnd⟩ := hW
  have hA : DataW.TrodAll enc Try.prog W 0 (fun _ => true) true Try.f13.params.toList args.toList ds p := hA0
  rw [Try.params13] at hA hval
  obtain ⟨v0, vs0, d0, ds0, p0, q0, hargs, rfl, rfl, h0, r0⟩ := trodAll_cons hA
  obtain ⟨v1, vs1, d1, ds1, p1, q1, rfl, rfl, rfl, h1, r1⟩ := trodAll_cons r0
  obtain ⟨rfl, rfl, rfl⟩ := trodAll_nil r1
  obtain rfl : args = #[v0, v1] := by
    obtain ⟨l⟩ := args
    exact congrArg Array.mk hargs
  obtain ⟨rfl, rfl⟩ := trodVars_none hV
  obtain ⟨c0, c1, c2, c3, y0, y1, y2, y3, n, rfl, _, _, k0, k1, k2, k3⟩ := open_agg4 Try.underlying73 (by kernel_rfl) (by kernel_rfl) (hval 0 73 v0 rfl rfl) h0
  obtain ⟨n0, e0, _, f0⟩ := DataW.trod_int Try.underlying2 k0
  obtain ⟨n1, e1, _, f1⟩ := DataW.trod_int Try.underlying2 k1
  obtain ⟨n2, e2, _, f2⟩ := DataW.trod_int Try.underlying2 k2
  obtain ⟨n3, e3, _, f3⟩ := DataW.trod_int Try.underlying2 k3
  cases e0; cases e1; cases e2; cases e3
  obtain ⟨m, rfl, rfl, rfl, w1⟩ := open_int Try.underlying2 (hval 1 2 v1 rfl rfl) h1
  refine (reckons_any n0 n1 n2 n3 m W (wf64 f0) (wf64 f1) (wf64 f2) (wf64 f3) (wf64 w1)).mono fun e W' ⟨he, hg⟩ => ?_
  subst he
  exact ⟨_, rfl, post_true hW' rfl rfl rfl (by kernel_rfl) (by kernel_rfl) hg⟩

set_option maxRecDepth 100000 in
theorem lifted (os : Os) (started : os.Started) (H : Type) (enc : TypeId × Value → H) :
    ReturnsInHanded {} Try.checked os 13 .any (Rows.operReckonsSpec.pre6 enc Try.prog Try.f13 Rows.operReckonsRow.domain false) (Rows.operReckonsSpec.post enc Try.prog Try.f13 false true false false) := by
  refine returnsInHanded_of_change (C := Try.checked) own started (by kernel_rfl) Try.func13
    (ChangeSpec.witness6 (enc := enc) (C := Try.checked) false ⟨#[], #[.agg #[.int .i64 0, .int .i64 0, .int .i64 0, .int .i64 0], .int .i64 0], []⟩ 8 (by kernel_rfl) (by kernel_rfl) (by kernel_rfl) (by kernel_rfl)) ?_
  intro W base args ds gs before hval0 hW hcnd _
  exact contract H enc W base args ds gs before hval0 hW

theorem over : Rows.operReckonsRow.holds Try.pinned (OpenSpec.ofChange Rows.operReckonsSpec) :=
  OpenClaim.holds_of_wide 13 Try.f13 rfl rfl rfl rfl rfl rfl rfl ⟨rfl, rfl, rfl, rfl, rfl⟩ rfl rfl rfl rfl rfl (by kernel_rfl) Try.func13 (by kernel_rfl)
    (of_decide_eq_true (by kernel_rfl)) (by unfold Func.isWrapper; first | (rw [if_pos (by decide +kernel)]; kernel_rfl) | (rw [if_neg (by decide +kernel)]; exact ⟨rfl, rfl⟩))
    (fun os started H enc _ => lifted os started H enc)

theorem proved : Rows.OperReckonsSaid :=
  over
#print axioms proved
end Go.Proofs.Ytheimbhnckaonaa.operReckons
