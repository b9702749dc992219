/-
  No cell of these rows narrows 'for every input' (looked for: loops, veiled, ifaces, maps, wideKeys, modest, calm, conditions, laid).
  DERIVED. THE GIVEN ROWS OF THIS SEAT. 11 by the template 'for every input the law returns true; each argument reads behind the call as it read before'; 0 by the template 'total and deterministic' (their statements: YtheimbhnckaonaaTotals.lean).
  GIVEN WITH THE SEED: the statements are not yours to turn. If you find one false, say at which input.
  Laid BY PROGRAM, IN A SANDBOX (cutbox-rows.mjs): the forced cells as the released guide's own fill.sh prints them over the translation fc995f814ba34b0f… (all of the seat's roots in one cut). By AI agents, Wed Nov 11 2026. No macro, syntax, notation, axiom, sorry.
-/
import Derived.Test.YtheimbhnckaonaaChecked
import GoSem.Claim
import GoSem.ClaimJoined
import GoSem.ClaimMapViews
import Derived.JoinedTies
import Derived.KernelRfl
namespace Go.Proofs.Ytheimbhnckaonaa
/- THE CELL 'sum', in the pinned program and in every row, IS THE sha256 OF THE DUMP (.gsa) THAT YtheimbhnckaonaaProg.lean LOADS. Nothing in Lean hashes anything: it is a label: what it is worth is what the hold of that sum in a sandbox is worth. -/
noncomputable def Try.pinned : Pinned := { name := "ytheimbhnckaonaa", sum := "fc995f814ba34b0f7149a1106508ce5216d6cbfb8644099e37209fadc5f5116f", checked := Try.checked }
namespace Rows
def none {H : Type} : Left H := { results := [], args := [] }

/-- 'spatelaw14.OperNames': WHATEVER THE INPUT: true; the input reads as it did. -/
def operNamesSpec : ChangeSpec := { name := "operNames", fn := fun _ => fun
  | [] => { results := [.lit (.bool true)], args := [] }
  | _ => none }
def operNamesRow : OpenClaim := { program := "ytheimbhnckaonaa", sum := "fc995f814ba34b0f7149a1106508ce5216d6cbfb8644099e37209fadc5f5116f", func := "spate/spatelaw14.OperNames", spec := "operNames", plainKeys := false, apart := false }
def OperNamesSaid : Prop := operNamesRow.holds Try.pinned (OpenSpec.ofChange operNamesSpec)

/-- ITS FALSE NEIGHBOUR: 'it returns false'. Refute it at one input. -/
def operNamesWrong : ChangeSpec := { name := "operNames", fn := fun _ => fun
  | [] => { results := [.lit (.bool false)], args := [] }
  | _ => none }
def OperNamesWrongFalsely : Prop := operNamesRow.holds Try.pinned (OpenSpec.ofChange operNamesWrong)

/-- 'spatelaw18.ServeNames': WHATEVER THE INPUT: true; the input reads as it did. -/
def serveNamesSpec : ChangeSpec := { name := "serveNames", fn := fun _ => fun
  | [] => { results := [.lit (.bool true)], args := [] }
  | _ => none }
def serveNamesRow : OpenClaim := { program := "ytheimbhnckaonaa", sum := "fc995f814ba34b0f7149a1106508ce5216d6cbfb8644099e37209fadc5f5116f", func := "spate/spatelaw18.ServeNames", spec := "serveNames", plainKeys := false, apart := false }
def ServeNamesSaid : Prop := serveNamesRow.holds Try.pinned (OpenSpec.ofChange serveNamesSpec)

/-- ITS FALSE NEIGHBOUR: 'it returns false'. Refute it at one input. -/
def serveNamesWrong : ChangeSpec := { name := "serveNames", fn := fun _ => fun
  | [] => { results := [.lit (.bool false)], args := [] }
  | _ => none }
def ServeNamesWrongFalsely : Prop := serveNamesRow.holds Try.pinned (OpenSpec.ofChange serveNamesWrong)

/-- 'spatelaw20.WorldNames': WHATEVER THE INPUT: true; the input reads as it did. -/
def worldNamesSpec : ChangeSpec := { name := "worldNames", fn := fun _ => fun
  | [] => { results := [.lit (.bool true)], args := [] }
  | _ => none }
def worldNamesRow : OpenClaim := { program := "ytheimbhnckaonaa", sum := "fc995f814ba34b0f7149a1106508ce5216d6cbfb8644099e37209fadc5f5116f", func := "spate/spatelaw20.WorldNames", spec := "worldNames", plainKeys := false, apart := false }
def WorldNamesSaid : Prop := worldNamesRow.holds Try.pinned (OpenSpec.ofChange worldNamesSpec)

/-- ITS FALSE NEIGHBOUR: 'it returns false'. Refute it at one input. -/
def worldNamesWrong : ChangeSpec := { name := "worldNames", fn := fun _ => fun
  | [] => { results := [.lit (.bool false)], args := [] }
  | _ => none }
def WorldNamesWrongFalsely : Prop := worldNamesRow.holds Try.pinned (OpenSpec.ofChange worldNamesWrong)

/-- 'spatelaw21.JudgeNames': WHATEVER THE INPUT: true; the input reads as it did. -/
def judgeNamesSpec : ChangeSpec := { name := "judgeNames", fn := fun _ => fun
  | [] => { results := [.lit (.bool true)], args := [] }
  | _ => none }
def judgeNamesRow : OpenClaim := { program := "ytheimbhnckaonaa", sum := "fc995f814ba34b0f7149a1106508ce5216d6cbfb8644099e37209fadc5f5116f", func := "spate/spatelaw21.JudgeNames", spec := "judgeNames", plainKeys := false, apart := false }
def JudgeNamesSaid : Prop := judgeNamesRow.holds Try.pinned (OpenSpec.ofChange judgeNamesSpec)

/-- ITS FALSE NEIGHBOUR: 'it returns false'. Refute it at one input. -/
def judgeNamesWrong : ChangeSpec := { name := "judgeNames", fn := fun _ => fun
  | [] => { results := [.lit (.bool false)], args := [] }
  | _ => none }
def JudgeNamesWrongFalsely : Prop := judgeNamesRow.holds Try.pinned (OpenSpec.ofChange judgeNamesWrong)

/-- 'spatelaw14.OperPlays': WHATEVER THE INPUT: true; the input reads as it did. -/
def operPlaysSpec : ChangeSpec := { name := "operPlays", fn := fun _ => fun
  | [d1, d2, d3] => { results := [.lit (.bool true)], args := [d1, d2, d3] }
  | _ => none }
def operPlaysRow : OpenClaim := { program := "ytheimbhnckaonaa", sum := "fc995f814ba34b0f7149a1106508ce5216d6cbfb8644099e37209fadc5f5116f", func := "spate/spatelaw14.OperPlays", spec := "operPlays", inPlace := ["internal/bytealg.abigen_runtime_cmpstring"], unfollowed := true, recurses := true, plainKeys := false, apart := false }
def OperPlaysSaid : Prop := operPlaysRow.holds Try.pinned (OpenSpec.ofChange operPlaysSpec)

/-- ITS FALSE NEIGHBOUR: 'it returns false'. Refute it at one input. -/
def operPlaysWrong : ChangeSpec := { name := "operPlays", fn := fun _ => fun
  | [d1, d2, d3] => { results := [.lit (.bool false)], args := [d1, d2, d3] }
  | _ => none }
def OperPlaysWrongFalsely : Prop := operPlaysRow.holds Try.pinned (OpenSpec.ofChange operPlaysWrong)

/-- 'spatelaw14.OperOpen': WHATEVER THE INPUT: true; the input reads as it did. -/
def operOpenSpec : ChangeSpec := { name := "operOpen", fn := fun _ => fun
  | [d1, d2, d3] => { results := [.lit (.bool true)], args := [d1, d2, d3] }
  | _ => none }
def operOpenRow : OpenClaim := { program := "ytheimbhnckaonaa", sum := "fc995f814ba34b0f7149a1106508ce5216d6cbfb8644099e37209fadc5f5116f", func := "spate/spatelaw14.OperOpen", spec := "operOpen", inPlace := ["internal/bytealg.abigen_runtime_cmpstring"], unfollowed := true, recurses := true, plainKeys := false, apart := false }
def OperOpenSaid : Prop := operOpenRow.holds Try.pinned (OpenSpec.ofChange operOpenSpec)

/-- ITS FALSE NEIGHBOUR: 'it returns false'. Refute it at one input. -/
def operOpenWrong : ChangeSpec := { name := "operOpen", fn := fun _ => fun
  | [d1, d2, d3] => { results := [.lit (.bool false)], args := [d1, d2, d3] }
  | _ => none }
def OperOpenWrongFalsely : Prop := operOpenRow.holds Try.pinned (OpenSpec.ofChange operOpenWrong)

/-- 'spatelaw14.OperOrders': WHATEVER THE INPUT: true; the input reads as it did. -/
def operOrdersSpec : ChangeSpec := { name := "operOrders", fn := fun _ => fun
  | [d1, d2, d3, d4, d5] => { results := [.lit (.bool true)], args := [d1, d2, d3, d4, d5] }
  | _ => none }
def operOrdersRow : OpenClaim := { program := "ytheimbhnckaonaa", sum := "fc995f814ba34b0f7149a1106508ce5216d6cbfb8644099e37209fadc5f5116f", func := "spate/spatelaw14.OperOrders", spec := "operOrders", inPlace := ["internal/bytealg.abigen_runtime_cmpstring"], unfollowed := true, recurses := true, plainKeys := false, apart := false }
def OperOrdersSaid : Prop := operOrdersRow.holds Try.pinned (OpenSpec.ofChange operOrdersSpec)

/-- ITS FALSE NEIGHBOUR: 'it returns false'. Refute it at one input. -/
def operOrdersWrong : ChangeSpec := { name := "operOrders", fn := fun _ => fun
  | [d1, d2, d3, d4, d5] => { results := [.lit (.bool false)], args := [d1, d2, d3, d4, d5] }
  | _ => none }
def OperOrdersWrongFalsely : Prop := operOrdersRow.holds Try.pinned (OpenSpec.ofChange operOrdersWrong)

/-- 'spatelaw14.OperOwn': WHATEVER THE INPUT: true; the input reads as it did. -/
def operOwnSpec : ChangeSpec := { name := "operOwn", fn := fun _ => fun
  | [d1, d2, d3, d4] => { results := [.lit (.bool true)], args := [d1, d2, d3, d4] }
  | _ => none }
def operOwnRow : OpenClaim := { program := "ytheimbhnckaonaa", sum := "fc995f814ba34b0f7149a1106508ce5216d6cbfb8644099e37209fadc5f5116f", func := "spate/spatelaw14.OperOwn", spec := "operOwn", inPlace := ["internal/bytealg.abigen_runtime_cmpstring"], unfollowed := true, recurses := true, plainKeys := false, apart := false }
def OperOwnSaid : Prop := operOwnRow.holds Try.pinned (OpenSpec.ofChange operOwnSpec)

/-- ITS FALSE NEIGHBOUR: 'it returns false'. Refute it at one input. -/
def operOwnWrong : ChangeSpec := { name := "operOwn", fn := fun _ => fun
  | [d1, d2, d3, d4] => { results := [.lit (.bool false)], args := [d1, d2, d3, d4] }
  | _ => none }
def OperOwnWrongFalsely : Prop := operOwnRow.holds Try.pinned (OpenSpec.ofChange operOwnWrong)

/-- 'spatelaw14.OperMany': WHATEVER THE INPUT: true; the input reads as it did. -/
def operManySpec : ChangeSpec := { name := "operMany", fn := fun _ => fun
  | [d1, d2, d3, d4] => { results := [.lit (.bool true)], args := [d1, d2, d3, d4] }
  | _ => none }
def operManyRow : OpenClaim := { program := "ytheimbhnckaonaa", sum := "fc995f814ba34b0f7149a1106508ce5216d6cbfb8644099e37209fadc5f5116f", func := "spate/spatelaw14.OperMany", spec := "operMany", inPlace := ["internal/bytealg.abigen_runtime_cmpstring"], unfollowed := true, recurses := true, plainKeys := false, apart := false }
def OperManySaid : Prop := operManyRow.holds Try.pinned (OpenSpec.ofChange operManySpec)

/-- ITS FALSE NEIGHBOUR: 'it returns false'. Refute it at one input. -/
def operManyWrong : ChangeSpec := { name := "operMany", fn := fun _ => fun
  | [d1, d2, d3, d4] => { results := [.lit (.bool false)], args := [d1, d2, d3, d4] }
  | _ => none }
def OperManyWrongFalsely : Prop := operManyRow.holds Try.pinned (OpenSpec.ofChange operManyWrong)

/-- 'spatelaw14.OperBook': WHATEVER THE INPUT: true; the input reads as it did. -/
def operBookSpec : ChangeSpec := { name := "operBook", fn := fun _ => fun
  | [d1, d2, d3, d4] => { results := [.lit (.bool true)], args := [d1, d2, d3, d4] }
  | _ => none }
def operBookRow : OpenClaim := { program := "ytheimbhnckaonaa", sum := "fc995f814ba34b0f7149a1106508ce5216d6cbfb8644099e37209fadc5f5116f", func := "spate/spatelaw14.OperBook", spec := "operBook", inPlace := ["internal/bytealg.abigen_runtime_cmpstring"], unfollowed := true, recurses := true, plainKeys := false, apart := false }
def OperBookSaid : Prop := operBookRow.holds Try.pinned (OpenSpec.ofChange operBookSpec)

/-- ITS FALSE NEIGHBOUR: 'it returns false'. Refute it at one input. -/
def operBookWrong : ChangeSpec := { name := "operBook", fn := fun _ => fun
  | [d1, d2, d3, d4] => { results := [.lit (.bool false)], args := [d1, d2, d3, d4] }
  | _ => none }
def OperBookWrongFalsely : Prop := operBookRow.holds Try.pinned (OpenSpec.ofChange operBookWrong)

/-- 'spatelaw14.OperReckons': WHATEVER THE INPUT: true; the input reads as it did. -/
def operReckonsSpec : ChangeSpec := { name := "operReckons", fn := fun _ => fun
  | [d1, d2] => { results := [.lit (.bool true)], args := [d1, d2] }
  | _ => none }
def operReckonsRow : OpenClaim := { program := "ytheimbhnckaonaa", sum := "fc995f814ba34b0f7149a1106508ce5216d6cbfb8644099e37209fadc5f5116f", func := "spate/spatelaw14.OperReckons", spec := "operReckons", inPlace := ["internal/bytealg.abigen_runtime_cmpstring", "internal/reflectlite.TypeOf"], unfollowed := true, recurses := true, plainKeys := false, apart := false }
def OperReckonsSaid : Prop := operReckonsRow.holds Try.pinned (OpenSpec.ofChange operReckonsSpec)

/-- ITS FALSE NEIGHBOUR: 'it returns false'. Refute it at one input. -/
def operReckonsWrong : ChangeSpec := { name := "operReckons", fn := fun _ => fun
  | [d1, d2] => { results := [.lit (.bool false)], args := [d1, d2] }
  | _ => none }
def OperReckonsWrongFalsely : Prop := operReckonsRow.holds Try.pinned (OpenSpec.ofChange operReckonsWrong)

/- THE SECOND FORM. 'bulk': how many values and letters a reading holds, each counted each time it is reached (what is shared counts as often as it is met; a slice's spare places count too). A statement '..UptoSaid' is the law's where the arguments, and the package variables that the reading takes, are together of bulk at most 1048576: NARROWER than '..Said'. Prove '..Said' where nothing that the law and all that it calls make is longer than what came in: it says more and counts as full. Else prove '..UptoSaid'. A law counts once. -/
mutual
def uptoBulk {H : Type} : DataW H → Nat
  | .lit (.string bytes) => bytes.length + 1
  | .lit _ => 1
  | .nil => 1
  | .ptr d => uptoBulk d + 1
  | .slice elems spare => uptoBulkAll elems + uptoBulkAll spare + 1
  | .agg parts => uptoBulkAll parts + 1
  | .iface _ d => uptoBulk d + 1
  | .map entries => uptoBulkEntries entries + 1
  | .held _ => 1
def uptoBulkAll {H : Type} : List (DataW H) → Nat
  | [] => 0
  | d :: r => uptoBulk d + uptoBulkAll r
def uptoBulkEntries {H : Type} : List (Lit × DataW H) → Nat
  | [] => 0
  | x :: r => uptoBulkEntry x + uptoBulkEntries r
def uptoBulkEntry {H : Type} : Lit × DataW H → Nat
  | (.string bytes, d) => bytes.length + uptoBulk d + 1
  | (_, d) => uptoBulk d + 1
 end
def uptoSmall : (H : Type) → List (DataW H) → Bool := fun _ ds => decide (uptoBulkAll ds ≤ 1048576)
def OpenSpec.upto (s : _root_.Go.ChangeSpec) : _root_.Go.OpenSpec := { _root_.Go.OpenSpec.ofChange s with cond := some uptoSmall }

/-- 'spatelaw14.OperNames', WHERE WHAT IT READS IS OF BULK AT MOST 1048576: true; the input reads as it did. -/
def operNamesUptoRow : OpenClaim := { program := "ytheimbhnckaonaa", sum := "fc995f814ba34b0f7149a1106508ce5216d6cbfb8644099e37209fadc5f5116f", func := "spate/spatelaw14.OperNames", spec := "operNames", plainKeys := false, apart := false, narrowed := true }
def OperNamesUptoSaid : Prop := operNamesUptoRow.holds Try.pinned (OpenSpec.upto operNamesSpec)

/-- 'spatelaw18.ServeNames', WHERE WHAT IT READS IS OF BULK AT MOST 1048576: true; the input reads as it did. -/
def serveNamesUptoRow : OpenClaim := { program := "ytheimbhnckaonaa", sum := "fc995f814ba34b0f7149a1106508ce5216d6cbfb8644099e37209fadc5f5116f", func := "spate/spatelaw18.ServeNames", spec := "serveNames", plainKeys := false, apart := false, narrowed := true }
def ServeNamesUptoSaid : Prop := serveNamesUptoRow.holds Try.pinned (OpenSpec.upto serveNamesSpec)

/-- 'spatelaw20.WorldNames', WHERE WHAT IT READS IS OF BULK AT MOST 1048576: true; the input reads as it did. -/
def worldNamesUptoRow : OpenClaim := { program := "ytheimbhnckaonaa", sum := "fc995f814ba34b0f7149a1106508ce5216d6cbfb8644099e37209fadc5f5116f", func := "spate/spatelaw20.WorldNames", spec := "worldNames", plainKeys := false, apart := false, narrowed := true }
def WorldNamesUptoSaid : Prop := worldNamesUptoRow.holds Try.pinned (OpenSpec.upto worldNamesSpec)

/-- 'spatelaw21.JudgeNames', WHERE WHAT IT READS IS OF BULK AT MOST 1048576: true; the input reads as it did. -/
def judgeNamesUptoRow : OpenClaim := { program := "ytheimbhnckaonaa", sum := "fc995f814ba34b0f7149a1106508ce5216d6cbfb8644099e37209fadc5f5116f", func := "spate/spatelaw21.JudgeNames", spec := "judgeNames", plainKeys := false, apart := false, narrowed := true }
def JudgeNamesUptoSaid : Prop := judgeNamesUptoRow.holds Try.pinned (OpenSpec.upto judgeNamesSpec)

/-- 'spatelaw14.OperPlays', WHERE WHAT IT READS IS OF BULK AT MOST 1048576: true; the input reads as it did. -/
def operPlaysUptoRow : OpenClaim := { program := "ytheimbhnckaonaa", sum := "fc995f814ba34b0f7149a1106508ce5216d6cbfb8644099e37209fadc5f5116f", func := "spate/spatelaw14.OperPlays", spec := "operPlays", inPlace := ["internal/bytealg.abigen_runtime_cmpstring"], unfollowed := true, recurses := true, plainKeys := false, apart := false, narrowed := true }
def OperPlaysUptoSaid : Prop := operPlaysUptoRow.holds Try.pinned (OpenSpec.upto operPlaysSpec)

/-- 'spatelaw14.OperOpen', WHERE WHAT IT READS IS OF BULK AT MOST 1048576: true; the input reads as it did. -/
def operOpenUptoRow : OpenClaim := { program := "ytheimbhnckaonaa", sum := "fc995f814ba34b0f7149a1106508ce5216d6cbfb8644099e37209fadc5f5116f", func := "spate/spatelaw14.OperOpen", spec := "operOpen", inPlace := ["internal/bytealg.abigen_runtime_cmpstring"], unfollowed := true, recurses := true, plainKeys := false, apart := false, narrowed := true }
def OperOpenUptoSaid : Prop := operOpenUptoRow.holds Try.pinned (OpenSpec.upto operOpenSpec)

/-- 'spatelaw14.OperOrders', WHERE WHAT IT READS IS OF BULK AT MOST 1048576: true; the input reads as it did. -/
def operOrdersUptoRow : OpenClaim := { program := "ytheimbhnckaonaa", sum := "fc995f814ba34b0f7149a1106508ce5216d6cbfb8644099e37209fadc5f5116f", func := "spate/spatelaw14.OperOrders", spec := "operOrders", inPlace := ["internal/bytealg.abigen_runtime_cmpstring"], unfollowed := true, recurses := true, plainKeys := false, apart := false, narrowed := true }
def OperOrdersUptoSaid : Prop := operOrdersUptoRow.holds Try.pinned (OpenSpec.upto operOrdersSpec)

/-- 'spatelaw14.OperOwn', WHERE WHAT IT READS IS OF BULK AT MOST 1048576: true; the input reads as it did. -/
def operOwnUptoRow : OpenClaim := { program := "ytheimbhnckaonaa", sum := "fc995f814ba34b0f7149a1106508ce5216d6cbfb8644099e37209fadc5f5116f", func := "spate/spatelaw14.OperOwn", spec := "operOwn", inPlace := ["internal/bytealg.abigen_runtime_cmpstring"], unfollowed := true, recurses := true, plainKeys := false, apart := false, narrowed := true }
def OperOwnUptoSaid : Prop := operOwnUptoRow.holds Try.pinned (OpenSpec.upto operOwnSpec)

/-- 'spatelaw14.OperMany', WHERE WHAT IT READS IS OF BULK AT MOST 1048576: true; the input reads as it did. -/
def operManyUptoRow : OpenClaim := { program := "ytheimbhnckaonaa", sum := "fc995f814ba34b0f7149a1106508ce5216d6cbfb8644099e37209fadc5f5116f", func := "spate/spatelaw14.OperMany", spec := "operMany", inPlace := ["internal/bytealg.abigen_runtime_cmpstring"], unfollowed := true, recurses := true, plainKeys := false, apart := false, narrowed := true }
def OperManyUptoSaid : Prop := operManyUptoRow.holds Try.pinned (OpenSpec.upto operManySpec)

/-- 'spatelaw14.OperBook', WHERE WHAT IT READS IS OF BULK AT MOST 1048576: true; the input reads as it did. -/
def operBookUptoRow : OpenClaim := { program := "ytheimbhnckaonaa", sum := "fc995f814ba34b0f7149a1106508ce5216d6cbfb8644099e37209fadc5f5116f", func := "spate/spatelaw14.OperBook", spec := "operBook", inPlace := ["internal/bytealg.abigen_runtime_cmpstring"], unfollowed := true, recurses := true, plainKeys := false, apart := false, narrowed := true }
def OperBookUptoSaid : Prop := operBookUptoRow.holds Try.pinned (OpenSpec.upto operBookSpec)

/-- 'spatelaw14.OperReckons', WHERE WHAT IT READS IS OF BULK AT MOST 1048576: true; the input reads as it did. -/
def operReckonsUptoRow : OpenClaim := { program := "ytheimbhnckaonaa", sum := "fc995f814ba34b0f7149a1106508ce5216d6cbfb8644099e37209fadc5f5116f", func := "spate/spatelaw14.OperReckons", spec := "operReckons", inPlace := ["internal/bytealg.abigen_runtime_cmpstring", "internal/reflectlite.TypeOf"], unfollowed := true, recurses := true, plainKeys := false, apart := false, narrowed := true }
def OperReckonsUptoSaid : Prop := operReckonsUptoRow.holds Try.pinned (OpenSpec.upto operReckonsSpec)

end Rows
end Go.Proofs.Ytheimbhnckaonaa
