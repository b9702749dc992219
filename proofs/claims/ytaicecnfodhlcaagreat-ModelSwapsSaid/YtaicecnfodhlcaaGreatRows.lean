/-
  No cell of these rows narrows 'for every input' (looked for: loops, veiled, ifaces, maps, wideKeys, modest, calm, conditions, laid).
  DERIVED. THE GIVEN ROWS OF THIS SEAT. 7 by the template 'for every input the law returns true; each argument reads behind the call as it read before'; 0 by the template 'total and deterministic' (their statements: YtaicecnfodhlcaaGreatTotals.lean).
  GIVEN WITH THE SEED: the statements are not yours to turn. If you find one false, say at which input.
  Laid BY PROGRAM, IN A SANDBOX (cutbox-rows.mjs): the forced cells as the released guide's own fill.sh prints them over the translation 78c982462caf6084… (all of the seat's roots in one cut). By AI agents, Wed Nov 11 2026. No macro, syntax, notation, axiom, sorry.
-/
import Derived.Test.YtaicecnfodhlcaaGreatChecked
import GoSem.Claim
import GoSem.ClaimJoined
import GoSem.ClaimMapViews
import Derived.JoinedTies
import Derived.KernelRfl
namespace Go.Proofs.YtaicecnfodhlcaaGreat
/- THE CELL 'sum', in the pinned program and in every row, IS THE sha256 OF THE DUMP (.gsa) THAT YtaicecnfodhlcaaGreatProg.lean LOADS. Nothing in Lean hashes anything: it is a label: what it is worth is what the hold of that sum in a sandbox is worth. -/
noncomputable def Tryz.pinned : Pinned := { name := "ytaicecnfodhlcaagreat", sum := "78c982462caf608412db7d4b19346c0c9b27eaad1949f16e22ed8ffa45f2cba4", checked := Tryz.checked }
namespace Rows
def none {H : Type} : Left H := { results := [], args := [] }

/-- 'spatelaw19.ModelRefused': WHATEVER THE INPUT: true; the input reads as it did. -/
def modelRefusedSpec : ChangeSpec := { name := "modelRefused", fn := fun _ => fun
  | [d1, d2, d3, d4, d5, d6] => { results := [.lit (.bool true)], args := [d1, d2, d3, d4, d5, d6] }
  | _ => none }
def modelRefusedRow : OpenClaim := { program := "ytaicecnfodhlcaagreat", sum := "78c982462caf608412db7d4b19346c0c9b27eaad1949f16e22ed8ffa45f2cba4", func := "spate/spatelaw19.ModelRefused", spec := "modelRefused", inPlace := ["internal/bytealg.abigen_runtime_cmpstring", "maps.clone"], unfollowed := true, recurses := true, plainKeys := false, apart := false }
def ModelRefusedSaid : Prop := modelRefusedRow.holds Tryz.pinned (OpenSpec.ofChange modelRefusedSpec)

/-- ITS FALSE NEIGHBOUR: 'it returns false'. Refute it at one input. -/
def modelRefusedWrong : ChangeSpec := { name := "modelRefused", fn := fun _ => fun
  | [d1, d2, d3, d4, d5, d6] => { results := [.lit (.bool false)], args := [d1, d2, d3, d4, d5, d6] }
  | _ => none }
def ModelRefusedWrongFalsely : Prop := modelRefusedRow.holds Tryz.pinned (OpenSpec.ofChange modelRefusedWrong)

/-- 'spatelaw19.ModelPast': WHATEVER THE INPUT: true; the input reads as it did. -/
def modelPastSpec : ChangeSpec := { name := "modelPast", fn := fun _ => fun
  | [d1, d2] => { results := [.lit (.bool true)], args := [d1, d2] }
  | _ => none }
def modelPastRow : OpenClaim := { program := "ytaicecnfodhlcaagreat", sum := "78c982462caf608412db7d4b19346c0c9b27eaad1949f16e22ed8ffa45f2cba4", func := "spate/spatelaw19.ModelPast", spec := "modelPast", inPlace := ["internal/bytealg.abigen_runtime_cmpstring", "maps.clone"], unfollowed := true, recurses := true, plainKeys := false, apart := false }
def ModelPastSaid : Prop := modelPastRow.holds Tryz.pinned (OpenSpec.ofChange modelPastSpec)

/-- ITS FALSE NEIGHBOUR: 'it returns false'. Refute it at one input. -/
def modelPastWrong : ChangeSpec := { name := "modelPast", fn := fun _ => fun
  | [d1, d2] => { results := [.lit (.bool false)], args := [d1, d2] }
  | _ => none }
def ModelPastWrongFalsely : Prop := modelPastRow.holds Tryz.pinned (OpenSpec.ofChange modelPastWrong)

/-- 'spatelaw19.ModelPlays': WHATEVER THE INPUT: true; the input reads as it did. -/
def modelPlaysSpec : ChangeSpec := { name := "modelPlays", fn := fun _ => fun
  | [d1, d2] => { results := [.lit (.bool true)], args := [d1, d2] }
  | _ => none }
def modelPlaysRow : OpenClaim := { program := "ytaicecnfodhlcaagreat", sum := "78c982462caf608412db7d4b19346c0c9b27eaad1949f16e22ed8ffa45f2cba4", func := "spate/spatelaw19.ModelPlays", spec := "modelPlays", inPlace := ["internal/bytealg.abigen_runtime_cmpstring", "maps.clone"], unfollowed := true, recurses := true, plainKeys := false, apart := false }
def ModelPlaysSaid : Prop := modelPlaysRow.holds Tryz.pinned (OpenSpec.ofChange modelPlaysSpec)

/-- ITS FALSE NEIGHBOUR: 'it returns false'. Refute it at one input. -/
def modelPlaysWrong : ChangeSpec := { name := "modelPlays", fn := fun _ => fun
  | [d1, d2] => { results := [.lit (.bool false)], args := [d1, d2] }
  | _ => none }
def ModelPlaysWrongFalsely : Prop := modelPlaysRow.holds Tryz.pinned (OpenSpec.ofChange modelPlaysWrong)

/-- 'spatelaw19.ModelOwn': WHATEVER THE INPUT: true; the input reads as it did. -/
def modelOwnSpec : ChangeSpec := { name := "modelOwn", fn := fun _ => fun
  | [d1, d2] => { results := [.lit (.bool true)], args := [d1, d2] }
  | _ => none }
def modelOwnRow : OpenClaim := { program := "ytaicecnfodhlcaagreat", sum := "78c982462caf608412db7d4b19346c0c9b27eaad1949f16e22ed8ffa45f2cba4", func := "spate/spatelaw19.ModelOwn", spec := "modelOwn", inPlace := ["internal/bytealg.abigen_runtime_cmpstring", "maps.clone"], unfollowed := true, recurses := true, plainKeys := false, apart := false }
def ModelOwnSaid : Prop := modelOwnRow.holds Tryz.pinned (OpenSpec.ofChange modelOwnSpec)

/-- ITS FALSE NEIGHBOUR: 'it returns false'. Refute it at one input. -/
def modelOwnWrong : ChangeSpec := { name := "modelOwn", fn := fun _ => fun
  | [d1, d2] => { results := [.lit (.bool false)], args := [d1, d2] }
  | _ => none }
def ModelOwnWrongFalsely : Prop := modelOwnRow.holds Tryz.pinned (OpenSpec.ofChange modelOwnWrong)

/-- 'spatelaw19.ModelSwaps': WHATEVER THE INPUT: true; the input reads as it did. -/
def modelSwapsSpec : ChangeSpec := { name := "modelSwaps", fn := fun _ => fun
  | [d1, d2, d3, d4] => { results := [.lit (.bool true)], args := [d1, d2, d3, d4] }
  | _ => none }
def modelSwapsRow : OpenClaim := { program := "ytaicecnfodhlcaagreat", sum := "78c982462caf608412db7d4b19346c0c9b27eaad1949f16e22ed8ffa45f2cba4", func := "spate/spatelaw19.ModelSwaps", spec := "modelSwaps", inPlace := ["internal/bytealg.abigen_runtime_cmpstring", "maps.clone"], unfollowed := true, recurses := true, plainKeys := false, apart := false }
def ModelSwapsSaid : Prop := modelSwapsRow.holds Tryz.pinned (OpenSpec.ofChange modelSwapsSpec)

/-- ITS FALSE NEIGHBOUR: 'it returns false'. Refute it at one input. -/
def modelSwapsWrong : ChangeSpec := { name := "modelSwaps", fn := fun _ => fun
  | [d1, d2, d3, d4] => { results := [.lit (.bool false)], args := [d1, d2, d3, d4] }
  | _ => none }
def ModelSwapsWrongFalsely : Prop := modelSwapsRow.holds Tryz.pinned (OpenSpec.ofChange modelSwapsWrong)

/-- 'spatelaw19.ModelAnswers': WHATEVER THE INPUT: true; the input reads as it did. -/
def modelAnswersSpec : ChangeSpec := { name := "modelAnswers", fn := fun _ => fun
  | [d1, d2] => { results := [.lit (.bool true)], args := [d1, d2] }
  | _ => none }
def modelAnswersRow : OpenClaim := { program := "ytaicecnfodhlcaagreat", sum := "78c982462caf608412db7d4b19346c0c9b27eaad1949f16e22ed8ffa45f2cba4", func := "spate/spatelaw19.ModelAnswers", spec := "modelAnswers", inPlace := ["internal/bytealg.abigen_runtime_cmpstring", "maps.clone"], unfollowed := true, recurses := true, plainKeys := false, apart := false }
def ModelAnswersSaid : Prop := modelAnswersRow.holds Tryz.pinned (OpenSpec.ofChange modelAnswersSpec)

/-- ITS FALSE NEIGHBOUR: 'it returns false'. Refute it at one input. -/
def modelAnswersWrong : ChangeSpec := { name := "modelAnswers", fn := fun _ => fun
  | [d1, d2] => { results := [.lit (.bool false)], args := [d1, d2] }
  | _ => none }
def ModelAnswersWrongFalsely : Prop := modelAnswersRow.holds Tryz.pinned (OpenSpec.ofChange modelAnswersWrong)

/-- 'spatelaw19.ModelTwins': WHATEVER THE INPUT: true; the input reads as it did. -/
def modelTwinsSpec : ChangeSpec := { name := "modelTwins", fn := fun _ => fun
  | [d1, d2, d3, d4] => { results := [.lit (.bool true)], args := [d1, d2, d3, d4] }
  | _ => none }
def modelTwinsRow : OpenClaim := { program := "ytaicecnfodhlcaagreat", sum := "78c982462caf608412db7d4b19346c0c9b27eaad1949f16e22ed8ffa45f2cba4", func := "spate/spatelaw19.ModelTwins", spec := "modelTwins", inPlace := ["internal/bytealg.abigen_runtime_cmpstring", "maps.clone"], unfollowed := true, recurses := true, plainKeys := false, apart := false }
def ModelTwinsSaid : Prop := modelTwinsRow.holds Tryz.pinned (OpenSpec.ofChange modelTwinsSpec)

/-- ITS FALSE NEIGHBOUR: 'it returns false'. Refute it at one input. -/
def modelTwinsWrong : ChangeSpec := { name := "modelTwins", fn := fun _ => fun
  | [d1, d2, d3, d4] => { results := [.lit (.bool false)], args := [d1, d2, d3, d4] }
  | _ => none }
def ModelTwinsWrongFalsely : Prop := modelTwinsRow.holds Tryz.pinned (OpenSpec.ofChange modelTwinsWrong)

/- THE SECOND FORM. 'bulk': how many values and letters a reading holds, each counted each time it is reached (what is shared counts as often as it is met; a slice's spare places count too). A statement '..UptoSaid' is the law's where the arguments, and the package variables that the reading takes, are together of bulk at most 1048576: NARROWER than '..Said'. Prove '..Said' where nothing that the law and all that it calls make is longer than what came in: it says more and counts as full. Else prove '..UptoSaid'. A law counts once. -/
mutual
def uptoBulk {H : Type} : DataW H → Nat
  | .lit (.string bytes) => bytes.length + 1
  | .lit _ => 1
  | .nil => 1
  | .ptr d => uptoBulk d + 1
  | .slice elems spare => uptoBulkAll elems + uptoBulkAll spare + 1
  | .agg parts => uptoBulkAll parts + 1
  | .iface _ d => uptoBulk d + 1
  | .map entries => uptoBulkEntries entries + 1
  | .held _ => 1
def uptoBulkAll {H : Type} : List (DataW H) → Nat
  | [] => 0
  | d :: r => uptoBulk d + uptoBulkAll r
def uptoBulkEntries {H : Type} : List (Lit × DataW H) → Nat
  | [] => 0
  | x :: r => uptoBulkEntry x + uptoBulkEntries r
def uptoBulkEntry {H : Type} : Lit × DataW H → Nat
  | (.string bytes, d) => bytes.length + uptoBulk d + 1
  | (_, d) => uptoBulk d + 1
 end
def uptoSmall : (H : Type) → List (DataW H) → Bool := fun _ ds => decide (uptoBulkAll ds ≤ 1048576)
def OpenSpec.upto (s : _root_.Go.ChangeSpec) : _root_.Go.OpenSpec := { _root_.Go.OpenSpec.ofChange s with cond := some uptoSmall }

/-- 'spatelaw19.ModelRefused', WHERE WHAT IT READS IS OF BULK AT MOST 1048576: true; the input reads as it did. -/
def modelRefusedUptoRow : OpenClaim := { program := "ytaicecnfodhlcaagreat", sum := "78c982462caf608412db7d4b19346c0c9b27eaad1949f16e22ed8ffa45f2cba4", func := "spate/spatelaw19.ModelRefused", spec := "modelRefused", inPlace := ["internal/bytealg.abigen_runtime_cmpstring", "maps.clone"], unfollowed := true, recurses := true, plainKeys := false, apart := false, narrowed := true }
def ModelRefusedUptoSaid : Prop := modelRefusedUptoRow.holds Tryz.pinned (OpenSpec.upto modelRefusedSpec)

/-- 'spatelaw19.ModelPast', WHERE WHAT IT READS IS OF BULK AT MOST 1048576: true; the input reads as it did. -/
def modelPastUptoRow : OpenClaim := { program := "ytaicecnfodhlcaagreat", sum := "78c982462caf608412db7d4b19346c0c9b27eaad1949f16e22ed8ffa45f2cba4", func := "spate/spatelaw19.ModelPast", spec := "modelPast", inPlace := ["internal/bytealg.abigen_runtime_cmpstring", "maps.clone"], unfollowed := true, recurses := true, plainKeys := false, apart := false, narrowed := true }
def ModelPastUptoSaid : Prop := modelPastUptoRow.holds Tryz.pinned (OpenSpec.upto modelPastSpec)

/-- 'spatelaw19.ModelPlays', WHERE WHAT IT READS IS OF BULK AT MOST 1048576: true; the input reads as it did. -/
def modelPlaysUptoRow : OpenClaim := { program := "ytaicecnfodhlcaagreat", sum := "78c982462caf608412db7d4b19346c0c9b27eaad1949f16e22ed8ffa45f2cba4", func := "spate/spatelaw19.ModelPlays", spec := "modelPlays", inPlace := ["internal/bytealg.abigen_runtime_cmpstring", "maps.clone"], unfollowed := true, recurses := true, plainKeys := false, apart := false, narrowed := true }
def ModelPlaysUptoSaid : Prop := modelPlaysUptoRow.holds Tryz.pinned (OpenSpec.upto modelPlaysSpec)

/-- 'spatelaw19.ModelOwn', WHERE WHAT IT READS IS OF BULK AT MOST 1048576: true; the input reads as it did. -/
def modelOwnUptoRow : OpenClaim := { program := "ytaicecnfodhlcaagreat", sum := "78c982462caf608412db7d4b19346c0c9b27eaad1949f16e22ed8ffa45f2cba4", func := "spate/spatelaw19.ModelOwn", spec := "modelOwn", inPlace := ["internal/bytealg.abigen_runtime_cmpstring", "maps.clone"], unfollowed := true, recurses := true, plainKeys := false, apart := false, narrowed := true }
def ModelOwnUptoSaid : Prop := modelOwnUptoRow.holds Tryz.pinned (OpenSpec.upto modelOwnSpec)

/-- 'spatelaw19.ModelSwaps', WHERE WHAT IT READS IS OF BULK AT MOST 1048576: true; the input reads as it did. -/
def modelSwapsUptoRow : OpenClaim := { program := "ytaicecnfodhlcaagreat", sum := "78c982462caf608412db7d4b19346c0c9b27eaad1949f16e22ed8ffa45f2cba4", func := "spate/spatelaw19.ModelSwaps", spec := "modelSwaps", inPlace := ["internal/bytealg.abigen_runtime_cmpstring", "maps.clone"], unfollowed := true, recurses := true, plainKeys := false, apart := false, narrowed := true }
def ModelSwapsUptoSaid : Prop := modelSwapsUptoRow.holds Tryz.pinned (OpenSpec.upto modelSwapsSpec)

/-- 'spatelaw19.ModelAnswers', WHERE WHAT IT READS IS OF BULK AT MOST 1048576: true; the input reads as it did. -/
def modelAnswersUptoRow : OpenClaim := { program := "ytaicecnfodhlcaagreat", sum := "78c982462caf608412db7d4b19346c0c9b27eaad1949f16e22ed8ffa45f2cba4", func := "spate/spatelaw19.ModelAnswers", spec := "modelAnswers", inPlace := ["internal/bytealg.abigen_runtime_cmpstring", "maps.clone"], unfollowed := true, recurses := true, plainKeys := false, apart := false, narrowed := true }
def ModelAnswersUptoSaid : Prop := modelAnswersUptoRow.holds Tryz.pinned (OpenSpec.upto modelAnswersSpec)

/-- 'spatelaw19.ModelTwins', WHERE WHAT IT READS IS OF BULK AT MOST 1048576: true; the input reads as it did. -/
def modelTwinsUptoRow : OpenClaim := { program := "ytaicecnfodhlcaagreat", sum := "78c982462caf608412db7d4b19346c0c9b27eaad1949f16e22ed8ffa45f2cba4", func := "spate/spatelaw19.ModelTwins", spec := "modelTwins", inPlace := ["internal/bytealg.abigen_runtime_cmpstring", "maps.clone"], unfollowed := true, recurses := true, plainKeys := false, apart := false, narrowed := true }
def ModelTwinsUptoSaid : Prop := modelTwinsUptoRow.holds Tryz.pinned (OpenSpec.upto modelTwinsSpec)

end Rows
end Go.Proofs.YtaicecnfodhlcaaGreat
