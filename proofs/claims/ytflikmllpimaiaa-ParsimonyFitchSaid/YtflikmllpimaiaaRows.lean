/-
  No cell of these rows narrows 'for every input' (looked for: loops, veiled, ifaces, maps, wideKeys, modest, calm, conditions, laid).
  DERIVED. THE GIVEN ROWS OF THIS SEAT. 8 by the template 'for every input the law returns true; each argument reads behind the call as it read before'; 0 by the template 'total and deterministic' (their statements: YtflikmllpimaiaaTotals.lean).
  GIVEN WITH THE SEED: the statements are not yours to turn. If you find one false, say at which input.
  Laid BY PROGRAM, IN A SANDBOX (cutbox-rows.mjs): the forced cells as the released guide's own fill.sh prints them over the translation a8b94a9292ab4f8d… (all of the seat's roots in one cut). By AI agents, Wed Nov 11 2026. No macro, syntax, notation, axiom, sorry.
-/
import Derived.Test.YtflikmllpimaiaaChecked
import GoSem.Claim
import GoSem.ClaimJoined
import GoSem.ClaimMapViews
import Derived.JoinedTies
import Derived.KernelRfl
namespace Go.Proofs.Ytflikmllpimaiaa
/- THE CELL 'sum', in the pinned program and in every row, IS THE sha256 OF THE DUMP (.gsa) THAT YtflikmllpimaiaaProg.lean LOADS. Nothing in Lean hashes anything: it is a label: what it is worth is what the hold of that sum in a sandbox is worth. -/
noncomputable def Try.pinned : Pinned := { name := "ytflikmllpimaiaa", sum := "a8b94a9292ab4f8d521ab76b6df70147fe57efc8463f35a0574815d9dbf0e0ea", checked := Try.checked }
namespace Rows
def none {H : Type} : Left H := { results := [], args := [] }

/-- 'apographlaw33.ParsimonyKnown': WHATEVER THE INPUT: true; the input reads as it did. -/
def parsimonyKnownSpec : ChangeSpec := { name := "parsimonyKnown", fn := fun _ => fun
  | [d1, d2, d3, d4] => { results := [.lit (.bool true)], args := [d1, d2, d3, d4] }
  | _ => none }
def parsimonyKnownRow : OpenClaim := { program := "ytflikmllpimaiaa", sum := "a8b94a9292ab4f8d521ab76b6df70147fe57efc8463f35a0574815d9dbf0e0ea", func := "apograph/apographlaw33.ParsimonyKnown", spec := "parsimonyKnown", inPlace := ["internal/bytealg.IndexByteString"], unfollowed := true, recurses := true, apart := false }
def ParsimonyKnownSaid : Prop := parsimonyKnownRow.holds Try.pinned (OpenSpec.ofChange parsimonyKnownSpec)

/-- ITS FALSE NEIGHBOUR: 'it returns false'. Refute it at one input. -/
def parsimonyKnownWrong : ChangeSpec := { name := "parsimonyKnown", fn := fun _ => fun
  | [d1, d2, d3, d4] => { results := [.lit (.bool false)], args := [d1, d2, d3, d4] }
  | _ => none }
def ParsimonyKnownWrongFalsely : Prop := parsimonyKnownRow.holds Try.pinned (OpenSpec.ofChange parsimonyKnownWrong)

/-- 'apographlaw33.ParsimonyAssign': WHATEVER THE INPUT: true; the input reads as it did. -/
def parsimonyAssignSpec : ChangeSpec := { name := "parsimonyAssign", fn := fun _ => fun
  | [d1, d2, d3] => { results := [.lit (.bool true)], args := [d1, d2, d3] }
  | _ => none }
def parsimonyAssignRow : OpenClaim := { program := "ytflikmllpimaiaa", sum := "a8b94a9292ab4f8d521ab76b6df70147fe57efc8463f35a0574815d9dbf0e0ea", func := "apograph/apographlaw33.ParsimonyAssign", spec := "parsimonyAssign", inPlace := ["internal/bytealg.IndexByteString"], unfollowed := true, recurses := true, apart := false }
def ParsimonyAssignSaid : Prop := parsimonyAssignRow.holds Try.pinned (OpenSpec.ofChange parsimonyAssignSpec)

/-- ITS FALSE NEIGHBOUR: 'it returns false'. Refute it at one input. -/
def parsimonyAssignWrong : ChangeSpec := { name := "parsimonyAssign", fn := fun _ => fun
  | [d1, d2, d3] => { results := [.lit (.bool false)], args := [d1, d2, d3] }
  | _ => none }
def ParsimonyAssignWrongFalsely : Prop := parsimonyAssignRow.holds Try.pinned (OpenSpec.ofChange parsimonyAssignWrong)

/-- 'apographlaw33.ParsimonyLeast': WHATEVER THE INPUT: true; the input reads as it did. -/
def parsimonyLeastSpec : ChangeSpec := { name := "parsimonyLeast", fn := fun _ => fun
  | [d1, d2, d3, d4] => { results := [.lit (.bool true)], args := [d1, d2, d3, d4] }
  | _ => none }
def parsimonyLeastRow : OpenClaim := { program := "ytflikmllpimaiaa", sum := "a8b94a9292ab4f8d521ab76b6df70147fe57efc8463f35a0574815d9dbf0e0ea", func := "apograph/apographlaw33.ParsimonyLeast", spec := "parsimonyLeast", inPlace := ["internal/bytealg.IndexByteString"], unfollowed := true, recurses := true, apart := false }
def ParsimonyLeastSaid : Prop := parsimonyLeastRow.holds Try.pinned (OpenSpec.ofChange parsimonyLeastSpec)

/-- ITS FALSE NEIGHBOUR: 'it returns false'. Refute it at one input. -/
def parsimonyLeastWrong : ChangeSpec := { name := "parsimonyLeast", fn := fun _ => fun
  | [d1, d2, d3, d4] => { results := [.lit (.bool false)], args := [d1, d2, d3, d4] }
  | _ => none }
def ParsimonyLeastWrongFalsely : Prop := parsimonyLeastRow.holds Try.pinned (OpenSpec.ofChange parsimonyLeastWrong)

/-- 'apographlaw33.ParsimonyTables': WHATEVER THE INPUT: true; the input reads as it did. -/
def parsimonyTablesSpec : ChangeSpec := { name := "parsimonyTables", fn := fun _ => fun
  | [d1, d2, d3, d4, d5] => { results := [.lit (.bool true)], args := [d1, d2, d3, d4, d5] }
  | _ => none }
def parsimonyTablesRow : OpenClaim := { program := "ytflikmllpimaiaa", sum := "a8b94a9292ab4f8d521ab76b6df70147fe57efc8463f35a0574815d9dbf0e0ea", func := "apograph/apographlaw33.ParsimonyTables", spec := "parsimonyTables", inPlace := ["internal/bytealg.IndexByteString"], unfollowed := true, recurses := true, apart := false }
def ParsimonyTablesSaid : Prop := parsimonyTablesRow.holds Try.pinned (OpenSpec.ofChange parsimonyTablesSpec)

/-- ITS FALSE NEIGHBOUR: 'it returns false'. Refute it at one input. -/
def parsimonyTablesWrong : ChangeSpec := { name := "parsimonyTables", fn := fun _ => fun
  | [d1, d2, d3, d4, d5] => { results := [.lit (.bool false)], args := [d1, d2, d3, d4, d5] }
  | _ => none }
def ParsimonyTablesWrongFalsely : Prop := parsimonyTablesRow.holds Try.pinned (OpenSpec.ofChange parsimonyTablesWrong)

/-- 'apographlaw33.ParsimonyVerifies': WHATEVER THE INPUT: true; the input reads as it did. -/
def parsimonyVerifiesSpec : ChangeSpec := { name := "parsimonyVerifies", fn := fun _ => fun
  | [d1, d2, d3, d4, d5] => { results := [.lit (.bool true)], args := [d1, d2, d3, d4, d5] }
  | _ => none }
def parsimonyVerifiesRow : OpenClaim := { program := "ytflikmllpimaiaa", sum := "a8b94a9292ab4f8d521ab76b6df70147fe57efc8463f35a0574815d9dbf0e0ea", func := "apograph/apographlaw33.ParsimonyVerifies", spec := "parsimonyVerifies", inPlace := ["internal/bytealg.IndexByteString"], unfollowed := true, recurses := true, apart := false }
def ParsimonyVerifiesSaid : Prop := parsimonyVerifiesRow.holds Try.pinned (OpenSpec.ofChange parsimonyVerifiesSpec)

/-- ITS FALSE NEIGHBOUR: 'it returns false'. Refute it at one input. -/
def parsimonyVerifiesWrong : ChangeSpec := { name := "parsimonyVerifies", fn := fun _ => fun
  | [d1, d2, d3, d4, d5] => { results := [.lit (.bool false)], args := [d1, d2, d3, d4, d5] }
  | _ => none }
def ParsimonyVerifiesWrongFalsely : Prop := parsimonyVerifiesRow.holds Try.pinned (OpenSpec.ofChange parsimonyVerifiesWrong)

/-- 'apographlaw33.ParsimonyScores': WHATEVER THE INPUT: true; the input reads as it did. -/
def parsimonyScoresSpec : ChangeSpec := { name := "parsimonyScores", fn := fun _ => fun
  | [d1, d2, d3, d4] => { results := [.lit (.bool true)], args := [d1, d2, d3, d4] }
  | _ => none }
def parsimonyScoresRow : OpenClaim := { program := "ytflikmllpimaiaa", sum := "a8b94a9292ab4f8d521ab76b6df70147fe57efc8463f35a0574815d9dbf0e0ea", func := "apograph/apographlaw33.ParsimonyScores", spec := "parsimonyScores", inPlace := ["internal/bytealg.IndexByteString"], unfollowed := true, recurses := true, apart := false }
def ParsimonyScoresSaid : Prop := parsimonyScoresRow.holds Try.pinned (OpenSpec.ofChange parsimonyScoresSpec)

/-- ITS FALSE NEIGHBOUR: 'it returns false'. Refute it at one input. -/
def parsimonyScoresWrong : ChangeSpec := { name := "parsimonyScores", fn := fun _ => fun
  | [d1, d2, d3, d4] => { results := [.lit (.bool false)], args := [d1, d2, d3, d4] }
  | _ => none }
def ParsimonyScoresWrongFalsely : Prop := parsimonyScoresRow.holds Try.pinned (OpenSpec.ofChange parsimonyScoresWrong)

/-- 'apographlaw33.ParsimonyFitch': WHATEVER THE INPUT: true; the input reads as it did. -/
def parsimonyFitchSpec : ChangeSpec := { name := "parsimonyFitch", fn := fun _ => fun
  | [d1, d2] => { results := [.lit (.bool true)], args := [d1, d2] }
  | _ => none }
def parsimonyFitchRow : OpenClaim := { program := "ytflikmllpimaiaa", sum := "a8b94a9292ab4f8d521ab76b6df70147fe57efc8463f35a0574815d9dbf0e0ea", func := "apograph/apographlaw33.ParsimonyFitch", spec := "parsimonyFitch", inPlace := ["internal/bytealg.IndexByteString"], unfollowed := true, recurses := true, apart := false }
def ParsimonyFitchSaid : Prop := parsimonyFitchRow.holds Try.pinned (OpenSpec.ofChange parsimonyFitchSpec)

/-- ITS FALSE NEIGHBOUR: 'it returns false'. Refute it at one input. -/
def parsimonyFitchWrong : ChangeSpec := { name := "parsimonyFitch", fn := fun _ => fun
  | [d1, d2] => { results := [.lit (.bool false)], args := [d1, d2] }
  | _ => none }
def ParsimonyFitchWrongFalsely : Prop := parsimonyFitchRow.holds Try.pinned (OpenSpec.ofChange parsimonyFitchWrong)

/-- 'apographlaw33.ParsimonyRoots': WHATEVER THE INPUT: true; the input reads as it did. -/
def parsimonyRootsSpec : ChangeSpec := { name := "parsimonyRoots", fn := fun _ => fun
  | [d1, d2, d3, d4] => { results := [.lit (.bool true)], args := [d1, d2, d3, d4] }
  | _ => none }
def parsimonyRootsRow : OpenClaim := { program := "ytflikmllpimaiaa", sum := "a8b94a9292ab4f8d521ab76b6df70147fe57efc8463f35a0574815d9dbf0e0ea", func := "apograph/apographlaw33.ParsimonyRoots", spec := "parsimonyRoots", inPlace := ["internal/bytealg.IndexByteString", "internal/bytealg.abigen_runtime_cmpstring"], unfollowed := true, recurses := true, apart := false }
def ParsimonyRootsSaid : Prop := parsimonyRootsRow.holds Try.pinned (OpenSpec.ofChange parsimonyRootsSpec)

/-- ITS FALSE NEIGHBOUR: 'it returns false'. Refute it at one input. -/
def parsimonyRootsWrong : ChangeSpec := { name := "parsimonyRoots", fn := fun _ => fun
  | [d1, d2, d3, d4] => { results := [.lit (.bool false)], args := [d1, d2, d3, d4] }
  | _ => none }
def ParsimonyRootsWrongFalsely : Prop := parsimonyRootsRow.holds Try.pinned (OpenSpec.ofChange parsimonyRootsWrong)

/- THE SECOND FORM. 'bulk': how many values and letters a reading holds, each counted each time it is reached (what is shared counts as often as it is met; a slice's spare places count too). A statement '..UptoSaid' is the law's where the arguments, and the package variables that the reading takes, are together of bulk at most 1048576: NARROWER than '..Said'. Prove '..Said' where nothing that the law and all that it calls make is longer than what came in: it says more and counts as full. Else prove '..UptoSaid'. A law counts once. -/
mutual
def uptoBulk {H : Type} : DataW H → Nat
  | .lit (.string bytes) => bytes.length + 1
  | .lit _ => 1
  | .nil => 1
  | .ptr d => uptoBulk d + 1
  | .slice elems spare => uptoBulkAll elems + uptoBulkAll spare + 1
  | .agg parts => uptoBulkAll parts + 1
  | .iface _ d => uptoBulk d + 1
  | .map entries => uptoBulkEntries entries + 1
  | .held _ => 1
def uptoBulkAll {H : Type} : List (DataW H) → Nat
  | [] => 0
  | d :: r => uptoBulk d + uptoBulkAll r
def uptoBulkEntries {H : Type} : List (Lit × DataW H) → Nat
  | [] => 0
  | x :: r => uptoBulkEntry x + uptoBulkEntries r
def uptoBulkEntry {H : Type} : Lit × DataW H → Nat
  | (.string bytes, d) => bytes.length + uptoBulk d + 1
  | (_, d) => uptoBulk d + 1
 end
def uptoSmall : (H : Type) → List (DataW H) → Bool := fun _ ds => decide (uptoBulkAll ds ≤ 1048576)
def OpenSpec.upto (s : _root_.Go.ChangeSpec) : _root_.Go.OpenSpec := { _root_.Go.OpenSpec.ofChange s with cond := some uptoSmall }

/-- 'apographlaw33.ParsimonyKnown', WHERE WHAT IT READS IS OF BULK AT MOST 1048576: true; the input reads as it did. -/
def parsimonyKnownUptoRow : OpenClaim := { program := "ytflikmllpimaiaa", sum := "a8b94a9292ab4f8d521ab76b6df70147fe57efc8463f35a0574815d9dbf0e0ea", func := "apograph/apographlaw33.ParsimonyKnown", spec := "parsimonyKnown", inPlace := ["internal/bytealg.IndexByteString"], unfollowed := true, recurses := true, apart := false, narrowed := true }
def ParsimonyKnownUptoSaid : Prop := parsimonyKnownUptoRow.holds Try.pinned (OpenSpec.upto parsimonyKnownSpec)

/-- 'apographlaw33.ParsimonyAssign', WHERE WHAT IT READS IS OF BULK AT MOST 1048576: true; the input reads as it did. -/
def parsimonyAssignUptoRow : OpenClaim := { program := "ytflikmllpimaiaa", sum := "a8b94a9292ab4f8d521ab76b6df70147fe57efc8463f35a0574815d9dbf0e0ea", func := "apograph/apographlaw33.ParsimonyAssign", spec := "parsimonyAssign", inPlace := ["internal/bytealg.IndexByteString"], unfollowed := true, recurses := true, apart := false, narrowed := true }
def ParsimonyAssignUptoSaid : Prop := parsimonyAssignUptoRow.holds Try.pinned (OpenSpec.upto parsimonyAssignSpec)

/-- 'apographlaw33.ParsimonyLeast', WHERE WHAT IT READS IS OF BULK AT MOST 1048576: true; the input reads as it did. -/
def parsimonyLeastUptoRow : OpenClaim := { program := "ytflikmllpimaiaa", sum := "a8b94a9292ab4f8d521ab76b6df70147fe57efc8463f35a0574815d9dbf0e0ea", func := "apograph/apographlaw33.ParsimonyLeast", spec := "parsimonyLeast", inPlace := ["internal/bytealg.IndexByteString"], unfollowed := true, recurses := true, apart := false, narrowed := true }
def ParsimonyLeastUptoSaid : Prop := parsimonyLeastUptoRow.holds Try.pinned (OpenSpec.upto parsimonyLeastSpec)

/-- 'apographlaw33.ParsimonyTables', WHERE WHAT IT READS IS OF BULK AT MOST 1048576: true; the input reads as it did. -/
def parsimonyTablesUptoRow : OpenClaim := { program := "ytflikmllpimaiaa", sum := "a8b94a9292ab4f8d521ab76b6df70147fe57efc8463f35a0574815d9dbf0e0ea", func := "apograph/apographlaw33.ParsimonyTables", spec := "parsimonyTables", inPlace := ["internal/bytealg.IndexByteString"], unfollowed := true, recurses := true, apart := false, narrowed := true }
def ParsimonyTablesUptoSaid : Prop := parsimonyTablesUptoRow.holds Try.pinned (OpenSpec.upto parsimonyTablesSpec)

/-- 'apographlaw33.ParsimonyVerifies', WHERE WHAT IT READS IS OF BULK AT MOST 1048576: true; the input reads as it did. -/
def parsimonyVerifiesUptoRow : OpenClaim := { program := "ytflikmllpimaiaa", sum := "a8b94a9292ab4f8d521ab76b6df70147fe57efc8463f35a0574815d9dbf0e0ea", func := "apograph/apographlaw33.ParsimonyVerifies", spec := "parsimonyVerifies", inPlace := ["internal/bytealg.IndexByteString"], unfollowed := true, recurses := true, apart := false, narrowed := true }
def ParsimonyVerifiesUptoSaid : Prop := parsimonyVerifiesUptoRow.holds Try.pinned (OpenSpec.upto parsimonyVerifiesSpec)

/-- 'apographlaw33.ParsimonyScores', WHERE WHAT IT READS IS OF BULK AT MOST 1048576: true; the input reads as it did. -/
def parsimonyScoresUptoRow : OpenClaim := { program := "ytflikmllpimaiaa", sum := "a8b94a9292ab4f8d521ab76b6df70147fe57efc8463f35a0574815d9dbf0e0ea", func := "apograph/apographlaw33.ParsimonyScores", spec := "parsimonyScores", inPlace := ["internal/bytealg.IndexByteString"], unfollowed := true, recurses := true, apart := false, narrowed := true }
def ParsimonyScoresUptoSaid : Prop := parsimonyScoresUptoRow.holds Try.pinned (OpenSpec.upto parsimonyScoresSpec)

/-- 'apographlaw33.ParsimonyFitch', WHERE WHAT IT READS IS OF BULK AT MOST 1048576: true; the input reads as it did. -/
def parsimonyFitchUptoRow : OpenClaim := { program := "ytflikmllpimaiaa", sum := "a8b94a9292ab4f8d521ab76b6df70147fe57efc8463f35a0574815d9dbf0e0ea", func := "apograph/apographlaw33.ParsimonyFitch", spec := "parsimonyFitch", inPlace := ["internal/bytealg.IndexByteString"], unfollowed := true, recurses := true, apart := false, narrowed := true }
def ParsimonyFitchUptoSaid : Prop := parsimonyFitchUptoRow.holds Try.pinned (OpenSpec.upto parsimonyFitchSpec)

/-- 'apographlaw33.ParsimonyRoots', WHERE WHAT IT READS IS OF BULK AT MOST 1048576: true; the input reads as it did. -/
def parsimonyRootsUptoRow : OpenClaim := { program := "ytflikmllpimaiaa", sum := "a8b94a9292ab4f8d521ab76b6df70147fe57efc8463f35a0574815d9dbf0e0ea", func := "apograph/apographlaw33.ParsimonyRoots", spec := "parsimonyRoots", inPlace := ["internal/bytealg.IndexByteString", "internal/bytealg.abigen_runtime_cmpstring"], unfollowed := true, recurses := true, apart := false, narrowed := true }
def ParsimonyRootsUptoSaid : Prop := parsimonyRootsUptoRow.holds Try.pinned (OpenSpec.upto parsimonyRootsSpec)

end Rows
end Go.Proofs.Ytflikmllpimaiaa
