/-
  No cell of these rows narrows 'for every input' (looked for: loops, veiled, ifaces, maps, wideKeys, modest, calm, conditions, laid).
  DERIVED. THE GIVEN ROWS OF THIS SEAT. 9 by the template 'for every input the law returns true; each argument reads behind the call as it read before'; 0 by the template 'total and deterministic' (their statements: YthgabkgmkolobaaGreatTotals.lean).
  GIVEN WITH THE SEED: the statements are not yours to turn. If you find one false, say at which input.
  Laid BY PROGRAM, IN A SANDBOX (cutbox-rows.mjs): the forced cells as the released guide's own fill.sh prints them over the translation f41299e2e51a1e30… (all of the seat's roots in one cut). By AI agents, Wed Nov 11 2026. No macro, syntax, notation, axiom, sorry.
-/
import Derived.Test.YthgabkgmkolobaaGreatChecked
import GoSem.Claim
import GoSem.ClaimJoined
import GoSem.ClaimMapViews
import Derived.JoinedTies
import Derived.KernelRfl
namespace Go.Proofs.YthgabkgmkolobaaGreat
/- THE CELL 'sum', in the pinned program and in every row, IS THE sha256 OF THE DUMP (.gsa) THAT YthgabkgmkolobaaGreatProg.lean LOADS. Nothing in Lean hashes anything: it is a label: what it is worth is what the hold of that sum in a sandbox is worth. -/
noncomputable def Tryz.pinned : Pinned := { name := "ythgabkgmkolobaagreat", sum := "f41299e2e51a1e300eac81c81611b77ffd98b5a264b4578429b4f664e0a09216", checked := Tryz.checked }
namespace Rows
def none {H : Type} : Left H := { results := [], args := [] }

/-- 'apographtop.TopPerfect': WHATEVER THE INPUT: true; the input reads as it did. -/
def topPerfectSpec : ChangeSpec := { name := "topPerfect", fn := fun _ => fun
  | [d1, d2] => { results := [.lit (.bool true)], args := [d1, d2] }
  | _ => none }
def topPerfectRow : OpenClaim := { program := "ythgabkgmkolobaagreat", sum := "f41299e2e51a1e300eac81c81611b77ffd98b5a264b4578429b4f664e0a09216", func := "apograph/apographtop.TopPerfect", spec := "topPerfect", inPlace := ["internal/bytealg.IndexByteString", "internal/bytealg.IndexString", "internal/bytealg.abigen_runtime_cmpstring", "internal/abi.NoEscape"], unfollowed := true, recurses := true, named := ["internal/bytealg.MaxLen"], apart := false }
def TopPerfectSaid : Prop := topPerfectRow.holds Tryz.pinned (OpenSpec.ofChange topPerfectSpec)

/-- ITS FALSE NEIGHBOUR: 'it returns false'. Refute it at one input. -/
def topPerfectWrong : ChangeSpec := { name := "topPerfect", fn := fun _ => fun
  | [d1, d2] => { results := [.lit (.bool false)], args := [d1, d2] }
  | _ => none }
def TopPerfectWrongFalsely : Prop := topPerfectRow.holds Tryz.pinned (OpenSpec.ofChange topPerfectWrong)

/-- 'apographlaw34.OptimaltreeAll': WHATEVER THE INPUT: true; the input reads as it did. -/
def optimaltreeAllSpec : ChangeSpec := { name := "optimaltreeAll", fn := fun _ => fun
  | [d] => { results := [.lit (.bool true)], args := [d] }
  | _ => none }
def optimaltreeAllRow : OpenClaim := { program := "ythgabkgmkolobaagreat", sum := "f41299e2e51a1e300eac81c81611b77ffd98b5a264b4578429b4f664e0a09216", func := "apograph/apographlaw34.OptimaltreeAll", spec := "optimaltreeAll", inPlace := ["internal/bytealg.IndexByteString", "internal/bytealg.IndexString", "internal/bytealg.abigen_runtime_cmpstring", "internal/abi.NoEscape"], unfollowed := true, recurses := true, named := ["internal/bytealg.MaxLen"], apart := false }
def OptimaltreeAllSaid : Prop := optimaltreeAllRow.holds Tryz.pinned (OpenSpec.ofChange optimaltreeAllSpec)

/-- ITS FALSE NEIGHBOUR: 'it returns false'. Refute it at one input. -/
def optimaltreeAllWrong : ChangeSpec := { name := "optimaltreeAll", fn := fun _ => fun
  | [d] => { results := [.lit (.bool false)], args := [d] }
  | _ => none }
def OptimaltreeAllWrongFalsely : Prop := optimaltreeAllRow.holds Tryz.pinned (OpenSpec.ofChange optimaltreeAllWrong)

/-- 'apographlaw34.OptimaltreeCompatible': WHATEVER THE INPUT: true; the input reads as it did. -/
def optimaltreeCompatibleSpec : ChangeSpec := { name := "optimaltreeCompatible", fn := fun _ => fun
  | [d1, d2, d3] => { results := [.lit (.bool true)], args := [d1, d2, d3] }
  | _ => none }
def optimaltreeCompatibleRow : OpenClaim := { program := "ythgabkgmkolobaagreat", sum := "f41299e2e51a1e300eac81c81611b77ffd98b5a264b4578429b4f664e0a09216", func := "apograph/apographlaw34.OptimaltreeCompatible", spec := "optimaltreeCompatible", inPlace := ["internal/bytealg.IndexByteString", "internal/bytealg.IndexString", "internal/bytealg.abigen_runtime_cmpstring", "internal/abi.NoEscape"], unfollowed := true, recurses := true, named := ["internal/bytealg.MaxLen"], apart := false }
def OptimaltreeCompatibleSaid : Prop := optimaltreeCompatibleRow.holds Tryz.pinned (OpenSpec.ofChange optimaltreeCompatibleSpec)

/-- ITS FALSE NEIGHBOUR: 'it returns false'. Refute it at one input. -/
def optimaltreeCompatibleWrong : ChangeSpec := { name := "optimaltreeCompatible", fn := fun _ => fun
  | [d1, d2, d3] => { results := [.lit (.bool false)], args := [d1, d2, d3] }
  | _ => none }
def OptimaltreeCompatibleWrongFalsely : Prop := optimaltreeCompatibleRow.holds Tryz.pinned (OpenSpec.ofChange optimaltreeCompatibleWrong)

/-- 'apographlaw34.OptimaltreeOrder': WHATEVER THE INPUT: true; the input reads as it did. -/
def optimaltreeOrderSpec : ChangeSpec := { name := "optimaltreeOrder", fn := fun _ => fun
  | [d1, d2, d3] => { results := [.lit (.bool true)], args := [d1, d2, d3] }
  | _ => none }
def optimaltreeOrderRow : OpenClaim := { program := "ythgabkgmkolobaagreat", sum := "f41299e2e51a1e300eac81c81611b77ffd98b5a264b4578429b4f664e0a09216", func := "apograph/apographlaw34.OptimaltreeOrder", spec := "optimaltreeOrder", inPlace := ["internal/bytealg.IndexByteString", "internal/bytealg.IndexString", "internal/bytealg.abigen_runtime_cmpstring", "internal/abi.NoEscape"], unfollowed := true, recurses := true, named := ["internal/bytealg.MaxLen"], apart := false }
def OptimaltreeOrderSaid : Prop := optimaltreeOrderRow.holds Tryz.pinned (OpenSpec.ofChange optimaltreeOrderSpec)

/-- ITS FALSE NEIGHBOUR: 'it returns false'. Refute it at one input. -/
def optimaltreeOrderWrong : ChangeSpec := { name := "optimaltreeOrder", fn := fun _ => fun
  | [d1, d2, d3] => { results := [.lit (.bool false)], args := [d1, d2, d3] }
  | _ => none }
def OptimaltreeOrderWrongFalsely : Prop := optimaltreeOrderRow.holds Tryz.pinned (OpenSpec.ofChange optimaltreeOrderWrong)

/-- 'apographlaw34.OptimaltreeScores': WHATEVER THE INPUT: true; the input reads as it did. -/
def optimaltreeScoresSpec : ChangeSpec := { name := "optimaltreeScores", fn := fun _ => fun
  | [d] => { results := [.lit (.bool true)], args := [d] }
  | _ => none }
def optimaltreeScoresRow : OpenClaim := { program := "ythgabkgmkolobaagreat", sum := "f41299e2e51a1e300eac81c81611b77ffd98b5a264b4578429b4f664e0a09216", func := "apograph/apographlaw34.OptimaltreeScores", spec := "optimaltreeScores", inPlace := ["internal/bytealg.IndexByteString", "internal/bytealg.IndexString", "internal/bytealg.abigen_runtime_cmpstring", "internal/abi.NoEscape"], unfollowed := true, recurses := true, named := ["internal/bytealg.MaxLen"], apart := false }
def OptimaltreeScoresSaid : Prop := optimaltreeScoresRow.holds Tryz.pinned (OpenSpec.ofChange optimaltreeScoresSpec)

/-- ITS FALSE NEIGHBOUR: 'it returns false'. Refute it at one input. -/
def optimaltreeScoresWrong : ChangeSpec := { name := "optimaltreeScores", fn := fun _ => fun
  | [d] => { results := [.lit (.bool false)], args := [d] }
  | _ => none }
def OptimaltreeScoresWrongFalsely : Prop := optimaltreeScoresRow.holds Tryz.pinned (OpenSpec.ofChange optimaltreeScoresWrong)

/-- 'apographlaw34.OptimaltreeLeast': WHATEVER THE INPUT: true; the input reads as it did. -/
def optimaltreeLeastSpec : ChangeSpec := { name := "optimaltreeLeast", fn := fun _ => fun
  | [d1, d2, d3] => { results := [.lit (.bool true)], args := [d1, d2, d3] }
  | _ => none }
def optimaltreeLeastRow : OpenClaim := { program := "ythgabkgmkolobaagreat", sum := "f41299e2e51a1e300eac81c81611b77ffd98b5a264b4578429b4f664e0a09216", func := "apograph/apographlaw34.OptimaltreeLeast", spec := "optimaltreeLeast", inPlace := ["internal/bytealg.IndexByteString", "internal/bytealg.IndexString", "internal/bytealg.abigen_runtime_cmpstring", "internal/abi.NoEscape"], unfollowed := true, recurses := true, named := ["internal/bytealg.MaxLen"], apart := false }
def OptimaltreeLeastSaid : Prop := optimaltreeLeastRow.holds Tryz.pinned (OpenSpec.ofChange optimaltreeLeastSpec)

/-- ITS FALSE NEIGHBOUR: 'it returns false'. Refute it at one input. -/
def optimaltreeLeastWrong : ChangeSpec := { name := "optimaltreeLeast", fn := fun _ => fun
  | [d1, d2, d3] => { results := [.lit (.bool false)], args := [d1, d2, d3] }
  | _ => none }
def OptimaltreeLeastWrongFalsely : Prop := optimaltreeLeastRow.holds Tryz.pinned (OpenSpec.ofChange optimaltreeLeastWrong)

/-- 'apographlaw34.OptimaltreeConsensus': WHATEVER THE INPUT: true; the input reads as it did. -/
def optimaltreeConsensusSpec : ChangeSpec := { name := "optimaltreeConsensus", fn := fun _ => fun
  | [d] => { results := [.lit (.bool true)], args := [d] }
  | _ => none }
def optimaltreeConsensusRow : OpenClaim := { program := "ythgabkgmkolobaagreat", sum := "f41299e2e51a1e300eac81c81611b77ffd98b5a264b4578429b4f664e0a09216", func := "apograph/apographlaw34.OptimaltreeConsensus", spec := "optimaltreeConsensus", inPlace := ["internal/bytealg.IndexByteString", "internal/bytealg.IndexString", "internal/bytealg.abigen_runtime_cmpstring", "internal/abi.NoEscape"], unfollowed := true, recurses := true, named := ["internal/bytealg.MaxLen"], apart := false }
def OptimaltreeConsensusSaid : Prop := optimaltreeConsensusRow.holds Tryz.pinned (OpenSpec.ofChange optimaltreeConsensusSpec)

/-- ITS FALSE NEIGHBOUR: 'it returns false'. Refute it at one input. -/
def optimaltreeConsensusWrong : ChangeSpec := { name := "optimaltreeConsensus", fn := fun _ => fun
  | [d] => { results := [.lit (.bool false)], args := [d] }
  | _ => none }
def OptimaltreeConsensusWrongFalsely : Prop := optimaltreeConsensusRow.holds Tryz.pinned (OpenSpec.ofChange optimaltreeConsensusWrong)

/-- 'apographlaw34.OptimaltreeCommon': WHATEVER THE INPUT: true; the input reads as it did. -/
def optimaltreeCommonSpec : ChangeSpec := { name := "optimaltreeCommon", fn := fun _ => fun
  | [d1, d2] => { results := [.lit (.bool true)], args := [d1, d2] }
  | _ => none }
def optimaltreeCommonRow : OpenClaim := { program := "ythgabkgmkolobaagreat", sum := "f41299e2e51a1e300eac81c81611b77ffd98b5a264b4578429b4f664e0a09216", func := "apograph/apographlaw34.OptimaltreeCommon", spec := "optimaltreeCommon", inPlace := ["internal/bytealg.IndexByteString", "internal/bytealg.IndexString", "internal/bytealg.abigen_runtime_cmpstring", "internal/abi.NoEscape"], unfollowed := true, recurses := true, named := ["internal/bytealg.MaxLen"], apart := false }
def OptimaltreeCommonSaid : Prop := optimaltreeCommonRow.holds Tryz.pinned (OpenSpec.ofChange optimaltreeCommonSpec)

/-- ITS FALSE NEIGHBOUR: 'it returns false'. Refute it at one input. -/
def optimaltreeCommonWrong : ChangeSpec := { name := "optimaltreeCommon", fn := fun _ => fun
  | [d1, d2] => { results := [.lit (.bool false)], args := [d1, d2] }
  | _ => none }
def OptimaltreeCommonWrongFalsely : Prop := optimaltreeCommonRow.holds Tryz.pinned (OpenSpec.ofChange optimaltreeCommonWrong)

/-- 'apographtop.TopConsensus': WHATEVER THE INPUT: true; the input reads as it did. -/
def topConsensusSpec : ChangeSpec := { name := "topConsensus", fn := fun _ => fun
  | [d1, d2] => { results := [.lit (.bool true)], args := [d1, d2] }
  | _ => none }
def topConsensusRow : OpenClaim := { program := "ythgabkgmkolobaagreat", sum := "f41299e2e51a1e300eac81c81611b77ffd98b5a264b4578429b4f664e0a09216", func := "apograph/apographtop.TopConsensus", spec := "topConsensus", inPlace := ["internal/bytealg.IndexByteString", "internal/bytealg.IndexString", "internal/bytealg.abigen_runtime_cmpstring", "internal/abi.NoEscape"], unfollowed := true, recurses := true, named := ["internal/bytealg.MaxLen"], apart := false }
def TopConsensusSaid : Prop := topConsensusRow.holds Tryz.pinned (OpenSpec.ofChange topConsensusSpec)

/-- ITS FALSE NEIGHBOUR: 'it returns false'. Refute it at one input. -/
def topConsensusWrong : ChangeSpec := { name := "topConsensus", fn := fun _ => fun
  | [d1, d2] => { results := [.lit (.bool false)], args := [d1, d2] }
  | _ => none }
def TopConsensusWrongFalsely : Prop := topConsensusRow.holds Tryz.pinned (OpenSpec.ofChange topConsensusWrong)

/- THE SECOND FORM. 'bulk': how many values and letters a reading holds, each counted each time it is reached (what is shared counts as often as it is met; a slice's spare places count too). A statement '..UptoSaid' is the law's where the arguments, and the package variables that the reading takes, are together of bulk at most 1048576: NARROWER than '..Said'. Prove '..Said' where nothing that the law and all that it calls make is longer than what came in: it says more and counts as full. Else prove '..UptoSaid'. A law counts once. -/
mutual
def uptoBulk {H : Type} : DataW H → Nat
  | .lit (.string bytes) => bytes.length + 1
  | .lit _ => 1
  | .nil => 1
  | .ptr d => uptoBulk d + 1
  | .slice elems spare => uptoBulkAll elems + uptoBulkAll spare + 1
  | .agg parts => uptoBulkAll parts + 1
  | .iface _ d => uptoBulk d + 1
  | .map entries => uptoBulkEntries entries + 1
  | .held _ => 1
def uptoBulkAll {H : Type} : List (DataW H) → Nat
  | [] => 0
  | d :: r => uptoBulk d + uptoBulkAll r
def uptoBulkEntries {H : Type} : List (Lit × DataW H) → Nat
  | [] => 0
  | x :: r => uptoBulkEntry x + uptoBulkEntries r
def uptoBulkEntry {H : Type} : Lit × DataW H → Nat
  | (.string bytes, d) => bytes.length + uptoBulk d + 1
  | (_, d) => uptoBulk d + 1
 end
def uptoSmall : (H : Type) → List (DataW H) → Bool := fun _ ds => decide (uptoBulkAll ds ≤ 1048576)
def OpenSpec.upto (s : _root_.Go.ChangeSpec) : _root_.Go.OpenSpec := { _root_.Go.OpenSpec.ofChange s with cond := some uptoSmall }

/-- 'apographtop.TopPerfect', WHERE WHAT IT READS IS OF BULK AT MOST 1048576: true; the input reads as it did. -/
def topPerfectUptoRow : OpenClaim := { program := "ythgabkgmkolobaagreat", sum := "f41299e2e51a1e300eac81c81611b77ffd98b5a264b4578429b4f664e0a09216", func := "apograph/apographtop.TopPerfect", spec := "topPerfect", inPlace := ["internal/bytealg.IndexByteString", "internal/bytealg.IndexString", "internal/bytealg.abigen_runtime_cmpstring", "internal/abi.NoEscape"], unfollowed := true, recurses := true, named := ["internal/bytealg.MaxLen"], apart := false, narrowed := true }
def TopPerfectUptoSaid : Prop := topPerfectUptoRow.holds Tryz.pinned (OpenSpec.upto topPerfectSpec)

/-- 'apographlaw34.OptimaltreeAll', WHERE WHAT IT READS IS OF BULK AT MOST 1048576: true; the input reads as it did. -/
def optimaltreeAllUptoRow : OpenClaim := { program := "ythgabkgmkolobaagreat", sum := "f41299e2e51a1e300eac81c81611b77ffd98b5a264b4578429b4f664e0a09216", func := "apograph/apographlaw34.OptimaltreeAll", spec := "optimaltreeAll", inPlace := ["internal/bytealg.IndexByteString", "internal/bytealg.IndexString", "internal/bytealg.abigen_runtime_cmpstring", "internal/abi.NoEscape"], unfollowed := true, recurses := true, named := ["internal/bytealg.MaxLen"], apart := false, narrowed := true }
def OptimaltreeAllUptoSaid : Prop := optimaltreeAllUptoRow.holds Tryz.pinned (OpenSpec.upto optimaltreeAllSpec)

/-- 'apographlaw34.OptimaltreeCompatible', WHERE WHAT IT READS IS OF BULK AT MOST 1048576: true; the input reads as it did. -/
def optimaltreeCompatibleUptoRow : OpenClaim := { program := "ythgabkgmkolobaagreat", sum := "f41299e2e51a1e300eac81c81611b77ffd98b5a264b4578429b4f664e0a09216", func := "apograph/apographlaw34.OptimaltreeCompatible", spec := "optimaltreeCompatible", inPlace := ["internal/bytealg.IndexByteString", "internal/bytealg.IndexString", "internal/bytealg.abigen_runtime_cmpstring", "internal/abi.NoEscape"], unfollowed := true, recurses := true, named := ["internal/bytealg.MaxLen"], apart := false, narrowed := true }
def OptimaltreeCompatibleUptoSaid : Prop := optimaltreeCompatibleUptoRow.holds Tryz.pinned (OpenSpec.upto optimaltreeCompatibleSpec)

/-- 'apographlaw34.OptimaltreeOrder', WHERE WHAT IT READS IS OF BULK AT MOST 1048576: true; the input reads as it did. -/
def optimaltreeOrderUptoRow : OpenClaim := { program := "ythgabkgmkolobaagreat", sum := "f41299e2e51a1e300eac81c81611b77ffd98b5a264b4578429b4f664e0a09216", func := "apograph/apographlaw34.OptimaltreeOrder", spec := "optimaltreeOrder", inPlace := ["internal/bytealg.IndexByteString", "internal/bytealg.IndexString", "internal/bytealg.abigen_runtime_cmpstring", "internal/abi.NoEscape"], unfollowed := true, recurses := true, named := ["internal/bytealg.MaxLen"], apart := false, narrowed := true }
def OptimaltreeOrderUptoSaid : Prop := optimaltreeOrderUptoRow.holds Tryz.pinned (OpenSpec.upto optimaltreeOrderSpec)

/-- 'apographlaw34.OptimaltreeScores', WHERE WHAT IT READS IS OF BULK AT MOST 1048576: true; the input reads as it did. -/
def optimaltreeScoresUptoRow : OpenClaim := { program := "ythgabkgmkolobaagreat", sum := "f41299e2e51a1e300eac81c81611b77ffd98b5a264b4578429b4f664e0a09216", func := "apograph/apographlaw34.OptimaltreeScores", spec := "optimaltreeScores", inPlace := ["internal/bytealg.IndexByteString", "internal/bytealg.IndexString", "internal/bytealg.abigen_runtime_cmpstring", "internal/abi.NoEscape"], unfollowed := true, recurses := true, named := ["internal/bytealg.MaxLen"], apart := false, narrowed := true }
def OptimaltreeScoresUptoSaid : Prop := optimaltreeScoresUptoRow.holds Tryz.pinned (OpenSpec.upto optimaltreeScoresSpec)

/-- 'apographlaw34.OptimaltreeLeast', WHERE WHAT IT READS IS OF BULK AT MOST 1048576: true; the input reads as it did. -/
def optimaltreeLeastUptoRow : OpenClaim := { program := "ythgabkgmkolobaagreat", sum := "f41299e2e51a1e300eac81c81611b77ffd98b5a264b4578429b4f664e0a09216", func := "apograph/apographlaw34.OptimaltreeLeast", spec := "optimaltreeLeast", inPlace := ["internal/bytealg.IndexByteString", "internal/bytealg.IndexString", "internal/bytealg.abigen_runtime_cmpstring", "internal/abi.NoEscape"], unfollowed := true, recurses := true, named := ["internal/bytealg.MaxLen"], apart := false, narrowed := true }
def OptimaltreeLeastUptoSaid : Prop := optimaltreeLeastUptoRow.holds Tryz.pinned (OpenSpec.upto optimaltreeLeastSpec)

/-- 'apographlaw34.OptimaltreeConsensus', WHERE WHAT IT READS IS OF BULK AT MOST 1048576: true; the input reads as it did. -/
def optimaltreeConsensusUptoRow : OpenClaim := { program := "ythgabkgmkolobaagreat", sum := "f41299e2e51a1e300eac81c81611b77ffd98b5a264b4578429b4f664e0a09216", func := "apograph/apographlaw34.OptimaltreeConsensus", spec := "optimaltreeConsensus", inPlace := ["internal/bytealg.IndexByteString", "internal/bytealg.IndexString", "internal/bytealg.abigen_runtime_cmpstring", "internal/abi.NoEscape"], unfollowed := true, recurses := true, named := ["internal/bytealg.MaxLen"], apart := false, narrowed := true }
def OptimaltreeConsensusUptoSaid : Prop := optimaltreeConsensusUptoRow.holds Tryz.pinned (OpenSpec.upto optimaltreeConsensusSpec)

/-- 'apographlaw34.OptimaltreeCommon', WHERE WHAT IT READS IS OF BULK AT MOST 1048576: true; the input reads as it did. -/
def optimaltreeCommonUptoRow : OpenClaim := { program := "ythgabkgmkolobaagreat", sum := "f41299e2e51a1e300eac81c81611b77ffd98b5a264b4578429b4f664e0a09216", func := "apograph/apographlaw34.OptimaltreeCommon", spec := "optimaltreeCommon", inPlace := ["internal/bytealg.IndexByteString", "internal/bytealg.IndexString", "internal/bytealg.abigen_runtime_cmpstring", "internal/abi.NoEscape"], unfollowed := true, recurses := true, named := ["internal/bytealg.MaxLen"], apart := false, narrowed := true }
def OptimaltreeCommonUptoSaid : Prop := optimaltreeCommonUptoRow.holds Tryz.pinned (OpenSpec.upto optimaltreeCommonSpec)

/-- 'apographtop.TopConsensus', WHERE WHAT IT READS IS OF BULK AT MOST 1048576: true; the input reads as it did. -/
def topConsensusUptoRow : OpenClaim := { program := "ythgabkgmkolobaagreat", sum := "f41299e2e51a1e300eac81c81611b77ffd98b5a264b4578429b4f664e0a09216", func := "apograph/apographtop.TopConsensus", spec := "topConsensus", inPlace := ["internal/bytealg.IndexByteString", "internal/bytealg.IndexString", "internal/bytealg.abigen_runtime_cmpstring", "internal/abi.NoEscape"], unfollowed := true, recurses := true, named := ["internal/bytealg.MaxLen"], apart := false, narrowed := true }
def TopConsensusUptoSaid : Prop := topConsensusUptoRow.holds Tryz.pinned (OpenSpec.upto topConsensusSpec)

end Rows
end Go.Proofs.YthgabkgmkolobaaGreat
