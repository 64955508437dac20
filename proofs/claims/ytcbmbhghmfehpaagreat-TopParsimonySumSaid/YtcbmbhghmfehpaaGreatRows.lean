/-
  No cell of these rows narrows 'for every input' (looked for: loops, veiled, ifaces, maps, wideKeys, modest, calm, conditions, laid).
  DERIVED. THE GIVEN ROWS OF THIS SEAT. 10 by the template 'for every input the law returns true; each argument reads behind the call as it read before'; 0 by the template 'total and deterministic' (their statements: YtcbmbhghmfehpaaGreatTotals.lean).
  GIVEN WITH THE SEED: the statements are not yours to turn. If you find one false, say at which input.
  Laid BY PROGRAM, IN A SANDBOX (cutbox-rows.mjs): the forced cells as the released guide's own fill.sh prints them over the translation c2acbf64ca4273c9… (all of the seat's roots in one cut). By AI agents, Wed Nov 11 2026. No macro, syntax, notation, axiom, sorry.
-/
import Derived.Test.YtcbmbhghmfehpaaGreatChecked
import GoSem.Claim
import GoSem.ClaimJoined
import GoSem.ClaimMapViews
import Derived.JoinedTies
import Derived.KernelRfl
namespace Go.Proofs.YtcbmbhghmfehpaaGreat
/- THE CELL 'sum', in the pinned program and in every row, IS THE sha256 OF THE DUMP (.gsa) THAT YtcbmbhghmfehpaaGreatProg.lean LOADS. Nothing in Lean hashes anything: it is a label: what it is worth is what the hold of that sum in a sandbox is worth. -/
noncomputable def Tryz.pinned : Pinned := { name := "ytcbmbhghmfehpaagreat", sum := "c2acbf64ca4273c9a4dfa156152c408e303cc21f7379767b1e8189e52fc551bc", checked := Tryz.checked }
namespace Rows
def none {H : Type} : Left H := { results := [], args := [] }

/-- 'apographtop.TopErrors': WHATEVER THE INPUT: true; the input reads as it did. -/
def topErrorsSpec : ChangeSpec := { name := "topErrors", fn := fun _ => fun
  | [d] => { results := [.lit (.bool true)], args := [d] }
  | _ => none }
def topErrorsRow : OpenClaim := { program := "ytcbmbhghmfehpaagreat", sum := "c2acbf64ca4273c9a4dfa156152c408e303cc21f7379767b1e8189e52fc551bc", func := "apograph/apographtop.TopErrors", spec := "topErrors", inPlace := ["internal/bytealg.IndexByteString", "internal/bytealg.abigen_runtime_cmpstring"], unfollowed := true, recurses := true, apart := false }
def TopErrorsSaid : Prop := topErrorsRow.holds Tryz.pinned (OpenSpec.ofChange topErrorsSpec)

/-- ITS FALSE NEIGHBOUR: 'it returns false'. Refute it at one input. -/
def topErrorsWrong : ChangeSpec := { name := "topErrors", fn := fun _ => fun
  | [d] => { results := [.lit (.bool false)], args := [d] }
  | _ => none }
def TopErrorsWrongFalsely : Prop := topErrorsRow.holds Tryz.pinned (OpenSpec.ofChange topErrorsWrong)

/-- 'apographtop.TopParsimonySum': WHATEVER THE INPUT: true; the input reads as it did. -/
def topParsimonySumSpec : ChangeSpec := { name := "topParsimonySum", fn := fun _ => fun
  | [d] => { results := [.lit (.bool true)], args := [d] }
  | _ => none }
def topParsimonySumRow : OpenClaim := { program := "ytcbmbhghmfehpaagreat", sum := "c2acbf64ca4273c9a4dfa156152c408e303cc21f7379767b1e8189e52fc551bc", func := "apograph/apographtop.TopParsimonySum", spec := "topParsimonySum", inPlace := ["internal/bytealg.IndexByteString", "internal/bytealg.abigen_runtime_cmpstring"], unfollowed := true, recurses := true, apart := false }
def TopParsimonySumSaid : Prop := topParsimonySumRow.holds Tryz.pinned (OpenSpec.ofChange topParsimonySumSpec)

/-- ITS FALSE NEIGHBOUR: 'it returns false'. Refute it at one input. -/
def topParsimonySumWrong : ChangeSpec := { name := "topParsimonySum", fn := fun _ => fun
  | [d] => { results := [.lit (.bool false)], args := [d] }
  | _ => none }
def TopParsimonySumWrongFalsely : Prop := topParsimonySumRow.holds Tryz.pinned (OpenSpec.ofChange topParsimonySumWrong)

/-- 'apographlaw32.SplitTrees': WHATEVER THE INPUT: true; the input reads as it did. -/
def splitTreesSpec : ChangeSpec := { name := "splitTrees", fn := fun _ => fun
  | [d1, d2, d3, d4] => { results := [.lit (.bool true)], args := [d1, d2, d3, d4] }
  | _ => none }
def splitTreesRow : OpenClaim := { program := "ytcbmbhghmfehpaagreat", sum := "c2acbf64ca4273c9a4dfa156152c408e303cc21f7379767b1e8189e52fc551bc", func := "apograph/apographlaw32.SplitTrees", spec := "splitTrees", inPlace := ["internal/bytealg.IndexByteString", "internal/bytealg.IndexString", "internal/bytealg.abigen_runtime_cmpstring", "internal/abi.NoEscape"], unfollowed := true, recurses := true, named := ["internal/bytealg.MaxLen"], apart := false }
def SplitTreesSaid : Prop := splitTreesRow.holds Tryz.pinned (OpenSpec.ofChange splitTreesSpec)

/-- ITS FALSE NEIGHBOUR: 'it returns false'. Refute it at one input. -/
def splitTreesWrong : ChangeSpec := { name := "splitTrees", fn := fun _ => fun
  | [d1, d2, d3, d4] => { results := [.lit (.bool false)], args := [d1, d2, d3, d4] }
  | _ => none }
def SplitTreesWrongFalsely : Prop := splitTreesRow.holds Tryz.pinned (OpenSpec.ofChange splitTreesWrong)

/-- 'apographlaw32.SplitBack': WHATEVER THE INPUT: true; the input reads as it did. -/
def splitBackSpec : ChangeSpec := { name := "splitBack", fn := fun _ => fun
  | [d1, d2] => { results := [.lit (.bool true)], args := [d1, d2] }
  | _ => none }
def splitBackRow : OpenClaim := { program := "ytcbmbhghmfehpaagreat", sum := "c2acbf64ca4273c9a4dfa156152c408e303cc21f7379767b1e8189e52fc551bc", func := "apograph/apographlaw32.SplitBack", spec := "splitBack", inPlace := ["internal/bytealg.IndexByteString", "internal/bytealg.IndexString", "internal/bytealg.abigen_runtime_cmpstring", "internal/abi.NoEscape"], unfollowed := true, recurses := true, named := ["internal/bytealg.MaxLen"], apart := false }
def SplitBackSaid : Prop := splitBackRow.holds Tryz.pinned (OpenSpec.ofChange splitBackSpec)

/-- ITS FALSE NEIGHBOUR: 'it returns false'. Refute it at one input. -/
def splitBackWrong : ChangeSpec := { name := "splitBack", fn := fun _ => fun
  | [d1, d2] => { results := [.lit (.bool false)], args := [d1, d2] }
  | _ => none }
def SplitBackWrongFalsely : Prop := splitBackRow.holds Tryz.pinned (OpenSpec.ofChange splitBackWrong)

/-- 'apographlaw32.SplitCompatible': WHATEVER THE INPUT: true; the input reads as it did. -/
def splitCompatibleSpec : ChangeSpec := { name := "splitCompatible", fn := fun _ => fun
  | [d1, d2, d3] => { results := [.lit (.bool true)], args := [d1, d2, d3] }
  | _ => none }
def splitCompatibleRow : OpenClaim := { program := "ytcbmbhghmfehpaagreat", sum := "c2acbf64ca4273c9a4dfa156152c408e303cc21f7379767b1e8189e52fc551bc", func := "apograph/apographlaw32.SplitCompatible", spec := "splitCompatible", inPlace := ["internal/bytealg.IndexByteString", "internal/bytealg.IndexString", "internal/bytealg.abigen_runtime_cmpstring", "internal/abi.NoEscape"], unfollowed := true, recurses := true, named := ["internal/bytealg.MaxLen"], apart := false }
def SplitCompatibleSaid : Prop := splitCompatibleRow.holds Tryz.pinned (OpenSpec.ofChange splitCompatibleSpec)

/-- ITS FALSE NEIGHBOUR: 'it returns false'. Refute it at one input. -/
def splitCompatibleWrong : ChangeSpec := { name := "splitCompatible", fn := fun _ => fun
  | [d1, d2, d3] => { results := [.lit (.bool false)], args := [d1, d2, d3] }
  | _ => none }
def SplitCompatibleWrongFalsely : Prop := splitCompatibleRow.holds Tryz.pinned (OpenSpec.ofChange splitCompatibleWrong)

/-- 'apographlaw32.SplitDistances': WHATEVER THE INPUT: true; the input reads as it did. -/
def splitDistancesSpec : ChangeSpec := { name := "splitDistances", fn := fun _ => fun
  | [d1, d2, d3, d4] => { results := [.lit (.bool true)], args := [d1, d2, d3, d4] }
  | _ => none }
def splitDistancesRow : OpenClaim := { program := "ytcbmbhghmfehpaagreat", sum := "c2acbf64ca4273c9a4dfa156152c408e303cc21f7379767b1e8189e52fc551bc", func := "apograph/apographlaw32.SplitDistances", spec := "splitDistances", inPlace := ["internal/bytealg.IndexByteString", "internal/bytealg.IndexString", "internal/bytealg.abigen_runtime_cmpstring", "internal/abi.NoEscape"], unfollowed := true, recurses := true, named := ["internal/bytealg.MaxLen"], apart := false }
def SplitDistancesSaid : Prop := splitDistancesRow.holds Tryz.pinned (OpenSpec.ofChange splitDistancesSpec)

/-- ITS FALSE NEIGHBOUR: 'it returns false'. Refute it at one input. -/
def splitDistancesWrong : ChangeSpec := { name := "splitDistances", fn := fun _ => fun
  | [d1, d2, d3, d4] => { results := [.lit (.bool false)], args := [d1, d2, d3, d4] }
  | _ => none }
def SplitDistancesWrongFalsely : Prop := splitDistancesRow.holds Tryz.pinned (OpenSpec.ofChange splitDistancesWrong)

/-- 'apographlaw32.SplitConflicts': WHATEVER THE INPUT: true; the input reads as it did. -/
def splitConflictsSpec : ChangeSpec := { name := "splitConflicts", fn := fun _ => fun
  | [d1, d2] => { results := [.lit (.bool true)], args := [d1, d2] }
  | _ => none }
def splitConflictsRow : OpenClaim := { program := "ytcbmbhghmfehpaagreat", sum := "c2acbf64ca4273c9a4dfa156152c408e303cc21f7379767b1e8189e52fc551bc", func := "apograph/apographlaw32.SplitConflicts", spec := "splitConflicts", inPlace := ["internal/bytealg.IndexByteString", "internal/bytealg.IndexString", "internal/bytealg.abigen_runtime_cmpstring", "internal/abi.NoEscape"], unfollowed := true, recurses := true, named := ["internal/bytealg.MaxLen"], apart := false }
def SplitConflictsSaid : Prop := splitConflictsRow.holds Tryz.pinned (OpenSpec.ofChange splitConflictsSpec)

/-- ITS FALSE NEIGHBOUR: 'it returns false'. Refute it at one input. -/
def splitConflictsWrong : ChangeSpec := { name := "splitConflicts", fn := fun _ => fun
  | [d1, d2] => { results := [.lit (.bool false)], args := [d1, d2] }
  | _ => none }
def SplitConflictsWrongFalsely : Prop := splitConflictsRow.holds Tryz.pinned (OpenSpec.ofChange splitConflictsWrong)

/-- 'apographlaw32.SplitStates': WHATEVER THE INPUT: true; the input reads as it did. -/
def splitStatesSpec : ChangeSpec := { name := "splitStates", fn := fun _ => fun
  | [d1, d2] => { results := [.lit (.bool true)], args := [d1, d2] }
  | _ => none }
def splitStatesRow : OpenClaim := { program := "ytcbmbhghmfehpaagreat", sum := "c2acbf64ca4273c9a4dfa156152c408e303cc21f7379767b1e8189e52fc551bc", func := "apograph/apographlaw32.SplitStates", spec := "splitStates", inPlace := ["internal/bytealg.IndexByteString", "internal/bytealg.IndexString", "internal/bytealg.abigen_runtime_cmpstring", "internal/abi.NoEscape"], unfollowed := true, recurses := true, named := ["internal/bytealg.MaxLen"], apart := false }
def SplitStatesSaid : Prop := splitStatesRow.holds Tryz.pinned (OpenSpec.ofChange splitStatesSpec)

/-- ITS FALSE NEIGHBOUR: 'it returns false'. Refute it at one input. -/
def splitStatesWrong : ChangeSpec := { name := "splitStates", fn := fun _ => fun
  | [d1, d2] => { results := [.lit (.bool false)], args := [d1, d2] }
  | _ => none }
def SplitStatesWrongFalsely : Prop := splitStatesRow.holds Tryz.pinned (OpenSpec.ofChange splitStatesWrong)

/-- 'apographlaw32.SplitChecks': WHATEVER THE INPUT: true; the input reads as it did. -/
def splitChecksSpec : ChangeSpec := { name := "splitChecks", fn := fun _ => fun
  | [d1, d2, d3, d4, d5] => { results := [.lit (.bool true)], args := [d1, d2, d3, d4, d5] }
  | _ => none }
def splitChecksRow : OpenClaim := { program := "ytcbmbhghmfehpaagreat", sum := "c2acbf64ca4273c9a4dfa156152c408e303cc21f7379767b1e8189e52fc551bc", func := "apograph/apographlaw32.SplitChecks", spec := "splitChecks", inPlace := ["internal/bytealg.IndexByteString", "internal/bytealg.IndexString", "internal/bytealg.abigen_runtime_cmpstring", "internal/abi.NoEscape"], unfollowed := true, recurses := true, named := ["internal/bytealg.MaxLen"], apart := false }
def SplitChecksSaid : Prop := splitChecksRow.holds Tryz.pinned (OpenSpec.ofChange splitChecksSpec)

/-- ITS FALSE NEIGHBOUR: 'it returns false'. Refute it at one input. -/
def splitChecksWrong : ChangeSpec := { name := "splitChecks", fn := fun _ => fun
  | [d1, d2, d3, d4, d5] => { results := [.lit (.bool false)], args := [d1, d2, d3, d4, d5] }
  | _ => none }
def SplitChecksWrongFalsely : Prop := splitChecksRow.holds Tryz.pinned (OpenSpec.ofChange splitChecksWrong)

/-- 'apographlaw32.SplitReroots': WHATEVER THE INPUT: true; the input reads as it did. -/
def splitRerootsSpec : ChangeSpec := { name := "splitReroots", fn := fun _ => fun
  | [d1, d2] => { results := [.lit (.bool true)], args := [d1, d2] }
  | _ => none }
def splitRerootsRow : OpenClaim := { program := "ytcbmbhghmfehpaagreat", sum := "c2acbf64ca4273c9a4dfa156152c408e303cc21f7379767b1e8189e52fc551bc", func := "apograph/apographlaw32.SplitReroots", spec := "splitReroots", inPlace := ["internal/bytealg.IndexByteString", "internal/bytealg.IndexString", "internal/bytealg.abigen_runtime_cmpstring", "internal/abi.NoEscape"], unfollowed := true, recurses := true, named := ["internal/bytealg.MaxLen"], apart := false }
def SplitRerootsSaid : Prop := splitRerootsRow.holds Tryz.pinned (OpenSpec.ofChange splitRerootsSpec)

/-- ITS FALSE NEIGHBOUR: 'it returns false'. Refute it at one input. -/
def splitRerootsWrong : ChangeSpec := { name := "splitReroots", fn := fun _ => fun
  | [d1, d2] => { results := [.lit (.bool false)], args := [d1, d2] }
  | _ => none }
def SplitRerootsWrongFalsely : Prop := splitRerootsRow.holds Tryz.pinned (OpenSpec.ofChange splitRerootsWrong)

/- THE SECOND FORM. 'bulk': how many values and letters a reading holds, each counted each time it is reached (what is shared counts as often as it is met; a slice's spare places count too). A statement '..UptoSaid' is the law's where the arguments, and the package variables that the reading takes, are together of bulk at most 1048576: NARROWER than '..Said'. Prove '..Said' where nothing that the law and all that it calls make is longer than what came in: it says more and counts as full. Else prove '..UptoSaid'. A law counts once. -/
mutual
def uptoBulk {H : Type} : DataW H → Nat
  | .lit (.string bytes) => bytes.length + 1
  | .lit _ => 1
  | .nil => 1
  | .ptr d => uptoBulk d + 1
  | .slice elems spare => uptoBulkAll elems + uptoBulkAll spare + 1
  | .agg parts => uptoBulkAll parts + 1
  | .iface _ d => uptoBulk d + 1
  | .map entries => uptoBulkEntries entries + 1
  | .held _ => 1
def uptoBulkAll {H : Type} : List (DataW H) → Nat
  | [] => 0
  | d :: r => uptoBulk d + uptoBulkAll r
def uptoBulkEntries {H : Type} : List (Lit × DataW H) → Nat
  | [] => 0
  | x :: r => uptoBulkEntry x + uptoBulkEntries r
def uptoBulkEntry {H : Type} : Lit × DataW H → Nat
  | (.string bytes, d) => bytes.length + uptoBulk d + 1
  | (_, d) => uptoBulk d + 1
 end
def uptoSmall : (H : Type) → List (DataW H) → Bool := fun _ ds => decide (uptoBulkAll ds ≤ 1048576)
def OpenSpec.upto (s : _root_.Go.ChangeSpec) : _root_.Go.OpenSpec := { _root_.Go.OpenSpec.ofChange s with cond := some uptoSmall }

/-- 'apographtop.TopErrors', WHERE WHAT IT READS IS OF BULK AT MOST 1048576: true; the input reads as it did. -/
def topErrorsUptoRow : OpenClaim := { program := "ytcbmbhghmfehpaagreat", sum := "c2acbf64ca4273c9a4dfa156152c408e303cc21f7379767b1e8189e52fc551bc", func := "apograph/apographtop.TopErrors", spec := "topErrors", inPlace := ["internal/bytealg.IndexByteString", "internal/bytealg.abigen_runtime_cmpstring"], unfollowed := true, recurses := true, apart := false, narrowed := true }
def TopErrorsUptoSaid : Prop := topErrorsUptoRow.holds Tryz.pinned (OpenSpec.upto topErrorsSpec)

/-- 'apographtop.TopParsimonySum', WHERE WHAT IT READS IS OF BULK AT MOST 1048576: true; the input reads as it did. -/
def topParsimonySumUptoRow : OpenClaim := { program := "ytcbmbhghmfehpaagreat", sum := "c2acbf64ca4273c9a4dfa156152c408e303cc21f7379767b1e8189e52fc551bc", func := "apograph/apographtop.TopParsimonySum", spec := "topParsimonySum", inPlace := ["internal/bytealg.IndexByteString", "internal/bytealg.abigen_runtime_cmpstring"], unfollowed := true, recurses := true, apart := false, narrowed := true }
def TopParsimonySumUptoSaid : Prop := topParsimonySumUptoRow.holds Tryz.pinned (OpenSpec.upto topParsimonySumSpec)

/-- 'apographlaw32.SplitTrees', WHERE WHAT IT READS IS OF BULK AT MOST 1048576: true; the input reads as it did. -/
def splitTreesUptoRow : OpenClaim := { program := "ytcbmbhghmfehpaagreat", sum := "c2acbf64ca4273c9a4dfa156152c408e303cc21f7379767b1e8189e52fc551bc", func := "apograph/apographlaw32.SplitTrees", spec := "splitTrees", inPlace := ["internal/bytealg.IndexByteString", "internal/bytealg.IndexString", "internal/bytealg.abigen_runtime_cmpstring", "internal/abi.NoEscape"], unfollowed := true, recurses := true, named := ["internal/bytealg.MaxLen"], apart := false, narrowed := true }
def SplitTreesUptoSaid : Prop := splitTreesUptoRow.holds Tryz.pinned (OpenSpec.upto splitTreesSpec)

/-- 'apographlaw32.SplitBack', WHERE WHAT IT READS IS OF BULK AT MOST 1048576: true; the input reads as it did. -/
def splitBackUptoRow : OpenClaim := { program := "ytcbmbhghmfehpaagreat", sum := "c2acbf64ca4273c9a4dfa156152c408e303cc21f7379767b1e8189e52fc551bc", func := "apograph/apographlaw32.SplitBack", spec := "splitBack", inPlace := ["internal/bytealg.IndexByteString", "internal/bytealg.IndexString", "internal/bytealg.abigen_runtime_cmpstring", "internal/abi.NoEscape"], unfollowed := true, recurses := true, named := ["internal/bytealg.MaxLen"], apart := false, narrowed := true }
def SplitBackUptoSaid : Prop := splitBackUptoRow.holds Tryz.pinned (OpenSpec.upto splitBackSpec)

/-- 'apographlaw32.SplitCompatible', WHERE WHAT IT READS IS OF BULK AT MOST 1048576: true; the input reads as it did. -/
def splitCompatibleUptoRow : OpenClaim := { program := "ytcbmbhghmfehpaagreat", sum := "c2acbf64ca4273c9a4dfa156152c408e303cc21f7379767b1e8189e52fc551bc", func := "apograph/apographlaw32.SplitCompatible", spec := "splitCompatible", inPlace := ["internal/bytealg.IndexByteString", "internal/bytealg.IndexString", "internal/bytealg.abigen_runtime_cmpstring", "internal/abi.NoEscape"], unfollowed := true, recurses := true, named := ["internal/bytealg.MaxLen"], apart := false, narrowed := true }
def SplitCompatibleUptoSaid : Prop := splitCompatibleUptoRow.holds Tryz.pinned (OpenSpec.upto splitCompatibleSpec)

/-- 'apographlaw32.SplitDistances', WHERE WHAT IT READS IS OF BULK AT MOST 1048576: true; the input reads as it did. -/
def splitDistancesUptoRow : OpenClaim := { program := "ytcbmbhghmfehpaagreat", sum := "c2acbf64ca4273c9a4dfa156152c408e303cc21f7379767b1e8189e52fc551bc", func := "apograph/apographlaw32.SplitDistances", spec := "splitDistances", inPlace := ["internal/bytealg.IndexByteString", "internal/bytealg.IndexString", "internal/bytealg.abigen_runtime_cmpstring", "internal/abi.NoEscape"], unfollowed := true, recurses := true, named := ["internal/bytealg.MaxLen"], apart := false, narrowed := true }
def SplitDistancesUptoSaid : Prop := splitDistancesUptoRow.holds Tryz.pinned (OpenSpec.upto splitDistancesSpec)

/-- 'apographlaw32.SplitConflicts', WHERE WHAT IT READS IS OF BULK AT MOST 1048576: true; the input reads as it did. -/
def splitConflictsUptoRow : OpenClaim := { program := "ytcbmbhghmfehpaagreat", sum := "c2acbf64ca4273c9a4dfa156152c408e303cc21f7379767b1e8189e52fc551bc", func := "apograph/apographlaw32.SplitConflicts", spec := "splitConflicts", inPlace := ["internal/bytealg.IndexByteString", "internal/bytealg.IndexString", "internal/bytealg.abigen_runtime_cmpstring", "internal/abi.NoEscape"], unfollowed := true, recurses := true, named := ["internal/bytealg.MaxLen"], apart := false, narrowed := true }
def SplitConflictsUptoSaid : Prop := splitConflictsUptoRow.holds Tryz.pinned (OpenSpec.upto splitConflictsSpec)

/-- 'apographlaw32.SplitStates', WHERE WHAT IT READS IS OF BULK AT MOST 1048576: true; the input reads as it did. -/
def splitStatesUptoRow : OpenClaim := { program := "ytcbmbhghmfehpaagreat", sum := "c2acbf64ca4273c9a4dfa156152c408e303cc21f7379767b1e8189e52fc551bc", func := "apograph/apographlaw32.SplitStates", spec := "splitStates", inPlace := ["internal/bytealg.IndexByteString", "internal/bytealg.IndexString", "internal/bytealg.abigen_runtime_cmpstring", "internal/abi.NoEscape"], unfollowed := true, recurses := true, named := ["internal/bytealg.MaxLen"], apart := false, narrowed := true }
def SplitStatesUptoSaid : Prop := splitStatesUptoRow.holds Tryz.pinned (OpenSpec.upto splitStatesSpec)

/-- 'apographlaw32.SplitChecks', WHERE WHAT IT READS IS OF BULK AT MOST 1048576: true; the input reads as it did. -/
def splitChecksUptoRow : OpenClaim := { program := "ytcbmbhghmfehpaagreat", sum := "c2acbf64ca4273c9a4dfa156152c408e303cc21f7379767b1e8189e52fc551bc", func := "apograph/apographlaw32.SplitChecks", spec := "splitChecks", inPlace := ["internal/bytealg.IndexByteString", "internal/bytealg.IndexString", "internal/bytealg.abigen_runtime_cmpstring", "internal/abi.NoEscape"], unfollowed := true, recurses := true, named := ["internal/bytealg.MaxLen"], apart := false, narrowed := true }
def SplitChecksUptoSaid : Prop := splitChecksUptoRow.holds Tryz.pinned (OpenSpec.upto splitChecksSpec)

/-- 'apographlaw32.SplitReroots', WHERE WHAT IT READS IS OF BULK AT MOST 1048576: true; the input reads as it did. -/
def splitRerootsUptoRow : OpenClaim := { program := "ytcbmbhghmfehpaagreat", sum := "c2acbf64ca4273c9a4dfa156152c408e303cc21f7379767b1e8189e52fc551bc", func := "apograph/apographlaw32.SplitReroots", spec := "splitReroots", inPlace := ["internal/bytealg.IndexByteString", "internal/bytealg.IndexString", "internal/bytealg.abigen_runtime_cmpstring", "internal/abi.NoEscape"], unfollowed := true, recurses := true, named := ["internal/bytealg.MaxLen"], apart := false, narrowed := true }
def SplitRerootsUptoSaid : Prop := splitRerootsUptoRow.holds Tryz.pinned (OpenSpec.upto splitRerootsSpec)

end Rows
end Go.Proofs.YtcbmbhghmfehpaaGreat
