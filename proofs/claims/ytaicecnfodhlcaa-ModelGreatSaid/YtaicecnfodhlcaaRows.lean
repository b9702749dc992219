/-
  No cell of these rows narrows 'for every input' (looked for: loops, veiled, ifaces, maps, wideKeys, modest, calm, conditions, laid).
  DERIVED. THE GIVEN ROWS OF THIS SEAT. 3 by the template 'for every input the law returns true; each argument reads behind the call as it read before'; 0 by the template 'total and deterministic' (their statements: YtaicecnfodhlcaaTotals.lean).
  GIVEN WITH THE SEED: the statements are not yours to turn. If you find one false, say at which input.
  Laid BY PROGRAM, IN A SANDBOX (cutbox-rows.mjs): the forced cells as the released guide's own fill.sh prints them over the translation 44bbd8c7fd894439… (all of the seat's roots in one cut). By AI agents, Wed Nov 11 2026. No macro, syntax, notation, axiom, sorry.
-/
import Derived.Test.YtaicecnfodhlcaaChecked
import GoSem.Claim
import GoSem.ClaimJoined
import GoSem.ClaimMapViews
import Derived.JoinedTies
import Derived.KernelRfl
namespace Go.Proofs.Ytaicecnfodhlcaa
/- THE CELL 'sum', in the pinned program and in every row, IS THE sha256 OF THE DUMP (.gsa) THAT YtaicecnfodhlcaaProg.lean LOADS. Nothing in Lean hashes anything: it is a label: what it is worth is what the hold of that sum in a sandbox is worth. -/
noncomputable def Try.pinned : Pinned := { name := "ytaicecnfodhlcaa", sum := "44bbd8c7fd8944397c1c6a57c1b42bf35d2b3d8eaae10c5b9ec3fa44fff4a2f3", checked := Try.checked }
namespace Rows
def none {H : Type} : Left H := { results := [], args := [] }

/-- 'spatelaw19.ModelNames': WHATEVER THE INPUT: true; the input reads as it did. -/
def modelNamesSpec : ChangeSpec := { name := "modelNames", fn := fun _ => fun
  | [] => { results := [.lit (.bool true)], args := [] }
  | _ => none }
def modelNamesRow : OpenClaim := { program := "ytaicecnfodhlcaa", sum := "44bbd8c7fd8944397c1c6a57c1b42bf35d2b3d8eaae10c5b9ec3fa44fff4a2f3", func := "spate/spatelaw19.ModelNames", spec := "modelNames", inPlace := ["internal/bytealg.abigen_runtime_cmpstring", "maps.clone"], unfollowed := true, recurses := true, plainKeys := false, apart := false }
def ModelNamesSaid : Prop := modelNamesRow.holds Try.pinned (OpenSpec.ofChange modelNamesSpec)

/-- ITS FALSE NEIGHBOUR: 'it returns false'. Refute it at one input. -/
def modelNamesWrong : ChangeSpec := { name := "modelNames", fn := fun _ => fun
  | [] => { results := [.lit (.bool false)], args := [] }
  | _ => none }
def ModelNamesWrongFalsely : Prop := modelNamesRow.holds Try.pinned (OpenSpec.ofChange modelNamesWrong)

/-- 'spatelaw19.ModelGreat': WHATEVER THE INPUT: true; the input reads as it did. -/
def modelGreatSpec : ChangeSpec := { name := "modelGreat", fn := fun _ => fun
  | [d1, d2] => { results := [.lit (.bool true)], args := [d1, d2] }
  | _ => none }
def modelGreatRow : OpenClaim := { program := "ytaicecnfodhlcaa", sum := "44bbd8c7fd8944397c1c6a57c1b42bf35d2b3d8eaae10c5b9ec3fa44fff4a2f3", func := "spate/spatelaw19.ModelGreat", spec := "modelGreat", inPlace := ["internal/bytealg.abigen_runtime_cmpstring", "maps.clone"], unfollowed := true, recurses := true, plainKeys := false, apart := false }
def ModelGreatSaid : Prop := modelGreatRow.holds Try.pinned (OpenSpec.ofChange modelGreatSpec)

/-- ITS FALSE NEIGHBOUR: 'it returns false'. Refute it at one input. -/
def modelGreatWrong : ChangeSpec := { name := "modelGreat", fn := fun _ => fun
  | [d1, d2] => { results := [.lit (.bool false)], args := [d1, d2] }
  | _ => none }
def ModelGreatWrongFalsely : Prop := modelGreatRow.holds Try.pinned (OpenSpec.ofChange modelGreatWrong)

/-- 'spatelaw19.ModelFolds': WHATEVER THE INPUT: true; the input reads as it did. -/
def modelFoldsSpec : ChangeSpec := { name := "modelFolds", fn := fun _ => fun
  | [d1, d2] => { results := [.lit (.bool true)], args := [d1, d2] }
  | _ => none }
def modelFoldsRow : OpenClaim := { program := "ytaicecnfodhlcaa", sum := "44bbd8c7fd8944397c1c6a57c1b42bf35d2b3d8eaae10c5b9ec3fa44fff4a2f3", func := "spate/spatelaw19.ModelFolds", spec := "modelFolds", inPlace := ["internal/bytealg.abigen_runtime_cmpstring", "maps.clone"], unfollowed := true, recurses := true, plainKeys := false, apart := false }
def ModelFoldsSaid : Prop := modelFoldsRow.holds Try.pinned (OpenSpec.ofChange modelFoldsSpec)

/-- ITS FALSE NEIGHBOUR: 'it returns false'. Refute it at one input. -/
def modelFoldsWrong : ChangeSpec := { name := "modelFolds", fn := fun _ => fun
  | [d1, d2] => { results := [.lit (.bool false)], args := [d1, d2] }
  | _ => none }
def ModelFoldsWrongFalsely : Prop := modelFoldsRow.holds Try.pinned (OpenSpec.ofChange modelFoldsWrong)

/- THE SECOND FORM. 'bulk': how many values and letters a reading holds, each counted each time it is reached (what is shared counts as often as it is met; a slice's spare places count too). A statement '..UptoSaid' is the law's where the arguments, and the package variables that the reading takes, are together of bulk at most 1048576: NARROWER than '..Said'. Prove '..Said' where nothing that the law and all that it calls make is longer than what came in: it says more and counts as full. Else prove '..UptoSaid'. A law counts once. -/
mutual
def uptoBulk {H : Type} : DataW H → Nat
  | .lit (.string bytes) => bytes.length + 1
  | .lit _ => 1
  | .nil => 1
  | .ptr d => uptoBulk d + 1
  | .slice elems spare => uptoBulkAll elems + uptoBulkAll spare + 1
  | .agg parts => uptoBulkAll parts + 1
  | .iface _ d => uptoBulk d + 1
  | .map entries => uptoBulkEntries entries + 1
  | .held _ => 1
def uptoBulkAll {H : Type} : List (DataW H) → Nat
  | [] => 0
  | d :: r => uptoBulk d + uptoBulkAll r
def uptoBulkEntries {H : Type} : List (Lit × DataW H) → Nat
  | [] => 0
  | x :: r => uptoBulkEntry x + uptoBulkEntries r
def uptoBulkEntry {H : Type} : Lit × DataW H → Nat
  | (.string bytes, d) => bytes.length + uptoBulk d + 1
  | (_, d) => uptoBulk d + 1
 end
def uptoSmall : (H : Type) → List (DataW H) → Bool := fun _ ds => decide (uptoBulkAll ds ≤ 1048576)
def OpenSpec.upto (s : _root_.Go.ChangeSpec) : _root_.Go.OpenSpec := { _root_.Go.OpenSpec.ofChange s with cond := some uptoSmall }

/-- 'spatelaw19.ModelNames', WHERE WHAT IT READS IS OF BULK AT MOST 1048576: true; the input reads as it did. -/
def modelNamesUptoRow : OpenClaim := { program := "ytaicecnfodhlcaa", sum := "44bbd8c7fd8944397c1c6a57c1b42bf35d2b3d8eaae10c5b9ec3fa44fff4a2f3", func := "spate/spatelaw19.ModelNames", spec := "modelNames", inPlace := ["internal/bytealg.abigen_runtime_cmpstring", "maps.clone"], unfollowed := true, recurses := true, plainKeys := false, apart := false, narrowed := true }
def ModelNamesUptoSaid : Prop := modelNamesUptoRow.holds Try.pinned (OpenSpec.upto modelNamesSpec)

/-- 'spatelaw19.ModelGreat', WHERE WHAT IT READS IS OF BULK AT MOST 1048576: true; the input reads as it did. -/
def modelGreatUptoRow : OpenClaim := { program := "ytaicecnfodhlcaa", sum := "44bbd8c7fd8944397c1c6a57c1b42bf35d2b3d8eaae10c5b9ec3fa44fff4a2f3", func := "spate/spatelaw19.ModelGreat", spec := "modelGreat", inPlace := ["internal/bytealg.abigen_runtime_cmpstring", "maps.clone"], unfollowed := true, recurses := true, plainKeys := false, apart := false, narrowed := true }
def ModelGreatUptoSaid : Prop := modelGreatUptoRow.holds Try.pinned (OpenSpec.upto modelGreatSpec)

/-- 'spatelaw19.ModelFolds', WHERE WHAT IT READS IS OF BULK AT MOST 1048576: true; the input reads as it did. -/
def modelFoldsUptoRow : OpenClaim := { program := "ytaicecnfodhlcaa", sum := "44bbd8c7fd8944397c1c6a57c1b42bf35d2b3d8eaae10c5b9ec3fa44fff4a2f3", func := "spate/spatelaw19.ModelFolds", spec := "modelFolds", inPlace := ["internal/bytealg.abigen_runtime_cmpstring", "maps.clone"], unfollowed := true, recurses := true, plainKeys := false, apart := false, narrowed := true }
def ModelFoldsUptoSaid : Prop := modelFoldsUptoRow.holds Try.pinned (OpenSpec.upto modelFoldsSpec)

end Rows
end Go.Proofs.Ytaicecnfodhlcaa
