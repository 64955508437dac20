/-
  No cell of these rows narrows 'for every input' (looked for: loops, veiled, ifaces, maps, wideKeys, modest, calm, conditions, laid).
  DERIVED. THE GIVEN ROWS OF THIS SEAT. 5 by the template 'for every input the law returns true; each argument reads behind the call as it read before'; 0 by the template 'total and deterministic' (their statements: YtpjijbophjdgaaaGreatTotals.lean).
  GIVEN WITH THE SEED: the statements are not yours to turn. If you find one false, say at which input.
  Laid BY PROGRAM, IN A SANDBOX (cutbox-rows.mjs): the forced cells as the released guide's own fill.sh prints them over the translation bb9869fbaa6d06ca… (all of the seat's roots in one cut). By AI agents, Wed Nov 11 2026. No macro, syntax, notation, axiom, sorry.
-/
import Derived.Test.YtpjijbophjdgaaaGreatChecked
import GoSem.Claim
import GoSem.ClaimJoined
import GoSem.ClaimMapViews
import Derived.JoinedTies
import Derived.KernelRfl
namespace Go.Proofs.YtpjijbophjdgaaaGreat
/- THE CELL 'sum', in the pinned program and in every row, IS THE sha256 OF THE DUMP (.gsa) THAT YtpjijbophjdgaaaGreatProg.lean LOADS. Nothing in Lean hashes anything: it is a label: what it is worth is what the hold of that sum in a sandbox is worth. -/
noncomputable def Tryz.pinned : Pinned := { name := "ytpjijbophjdgaaagreat", sum := "bb9869fbaa6d06ca899d3a67343c4d0478cadcec86ff86ab8f24108f2b1348e9", checked := Tryz.checked }
namespace Rows
def none {H : Type} : Left H := { results := [], args := [] }

/-- 'apographtop.TopErrors': WHATEVER THE INPUT: true; the input reads as it did. -/
def topErrorsSpec : ChangeSpec := { name := "topErrors", fn := fun _ => fun
  | [d] => { results := [.lit (.bool true)], args := [d] }
  | _ => none }
def topErrorsRow : OpenClaim := { program := "ytpjijbophjdgaaagreat", sum := "bb9869fbaa6d06ca899d3a67343c4d0478cadcec86ff86ab8f24108f2b1348e9", func := "apograph/apographtop.TopErrors", spec := "topErrors", inPlace := ["internal/bytealg.IndexByteString", "internal/bytealg.abigen_runtime_cmpstring"], unfollowed := true, recurses := true, apart := false }
def TopErrorsSaid : Prop := topErrorsRow.holds Tryz.pinned (OpenSpec.ofChange topErrorsSpec)

/-- ITS FALSE NEIGHBOUR: 'it returns false'. Refute it at one input. -/
def topErrorsWrong : ChangeSpec := { name := "topErrors", fn := fun _ => fun
  | [d] => { results := [.lit (.bool false)], args := [d] }
  | _ => none }
def TopErrorsWrongFalsely : Prop := topErrorsRow.holds Tryz.pinned (OpenSpec.ofChange topErrorsWrong)

/-- 'apographlaw31.PhylotreeMoves': WHATEVER THE INPUT: true; the input reads as it did. -/
def phylotreeMovesSpec : ChangeSpec := { name := "phylotreeMoves", fn := fun _ => fun
  | [d1, d2, d3, d4] => { results := [.lit (.bool true)], args := [d1, d2, d3, d4] }
  | _ => none }
def phylotreeMovesRow : OpenClaim := { program := "ytpjijbophjdgaaagreat", sum := "bb9869fbaa6d06ca899d3a67343c4d0478cadcec86ff86ab8f24108f2b1348e9", func := "apograph/apographlaw31.PhylotreeMoves", spec := "phylotreeMoves", inPlace := ["internal/bytealg.IndexByteString", "internal/bytealg.IndexString", "internal/bytealg.abigen_runtime_cmpstring", "internal/abi.NoEscape"], unfollowed := true, recurses := true, named := ["internal/bytealg.MaxLen"], apart := false }
def PhylotreeMovesSaid : Prop := phylotreeMovesRow.holds Tryz.pinned (OpenSpec.ofChange phylotreeMovesSpec)

/-- ITS FALSE NEIGHBOUR: 'it returns false'. Refute it at one input. -/
def phylotreeMovesWrong : ChangeSpec := { name := "phylotreeMoves", fn := fun _ => fun
  | [d1, d2, d3, d4] => { results := [.lit (.bool false)], args := [d1, d2, d3, d4] }
  | _ => none }
def PhylotreeMovesWrongFalsely : Prop := phylotreeMovesRow.holds Tryz.pinned (OpenSpec.ofChange phylotreeMovesWrong)

/-- 'apographlaw31.PhylotreeReads': WHATEVER THE INPUT: true; the input reads as it did. -/
def phylotreeReadsSpec : ChangeSpec := { name := "phylotreeReads", fn := fun _ => fun
  | [d1, d2, d3, d4] => { results := [.lit (.bool true)], args := [d1, d2, d3, d4] }
  | _ => none }
def phylotreeReadsRow : OpenClaim := { program := "ytpjijbophjdgaaagreat", sum := "bb9869fbaa6d06ca899d3a67343c4d0478cadcec86ff86ab8f24108f2b1348e9", func := "apograph/apographlaw31.PhylotreeReads", spec := "phylotreeReads", inPlace := ["internal/bytealg.IndexByteString", "internal/bytealg.IndexString", "internal/bytealg.abigen_runtime_cmpstring", "internal/abi.NoEscape"], unfollowed := true, recurses := true, named := ["internal/bytealg.MaxLen"], apart := false }
def PhylotreeReadsSaid : Prop := phylotreeReadsRow.holds Tryz.pinned (OpenSpec.ofChange phylotreeReadsSpec)

/-- ITS FALSE NEIGHBOUR: 'it returns false'. Refute it at one input. -/
def phylotreeReadsWrong : ChangeSpec := { name := "phylotreeReads", fn := fun _ => fun
  | [d1, d2, d3, d4] => { results := [.lit (.bool false)], args := [d1, d2, d3, d4] }
  | _ => none }
def PhylotreeReadsWrongFalsely : Prop := phylotreeReadsRow.holds Tryz.pinned (OpenSpec.ofChange phylotreeReadsWrong)

/-- 'apographlaw32.SplitTrees': WHATEVER THE INPUT: true; the input reads as it did. -/
def splitTreesSpec : ChangeSpec := { name := "splitTrees", fn := fun _ => fun
  | [d1, d2, d3, d4] => { results := [.lit (.bool true)], args := [d1, d2, d3, d4] }
  | _ => none }
def splitTreesRow : OpenClaim := { program := "ytpjijbophjdgaaagreat", sum := "bb9869fbaa6d06ca899d3a67343c4d0478cadcec86ff86ab8f24108f2b1348e9", func := "apograph/apographlaw32.SplitTrees", spec := "splitTrees", inPlace := ["internal/bytealg.IndexByteString", "internal/bytealg.IndexString", "internal/bytealg.abigen_runtime_cmpstring", "internal/abi.NoEscape"], unfollowed := true, recurses := true, named := ["internal/bytealg.MaxLen"], apart := false }
def SplitTreesSaid : Prop := splitTreesRow.holds Tryz.pinned (OpenSpec.ofChange splitTreesSpec)

/-- ITS FALSE NEIGHBOUR: 'it returns false'. Refute it at one input. -/
def splitTreesWrong : ChangeSpec := { name := "splitTrees", fn := fun _ => fun
  | [d1, d2, d3, d4] => { results := [.lit (.bool false)], args := [d1, d2, d3, d4] }
  | _ => none }
def SplitTreesWrongFalsely : Prop := splitTreesRow.holds Tryz.pinned (OpenSpec.ofChange splitTreesWrong)

/-- 'apographlaw32.SplitReroots': WHATEVER THE INPUT: true; the input reads as it did. -/
def splitRerootsSpec : ChangeSpec := { name := "splitReroots", fn := fun _ => fun
  | [d1, d2] => { results := [.lit (.bool true)], args := [d1, d2] }
  | _ => none }
def splitRerootsRow : OpenClaim := { program := "ytpjijbophjdgaaagreat", sum := "bb9869fbaa6d06ca899d3a67343c4d0478cadcec86ff86ab8f24108f2b1348e9", func := "apograph/apographlaw32.SplitReroots", spec := "splitReroots", inPlace := ["internal/bytealg.IndexByteString", "internal/bytealg.IndexString", "internal/bytealg.abigen_runtime_cmpstring", "internal/abi.NoEscape"], unfollowed := true, recurses := true, named := ["internal/bytealg.MaxLen"], apart := false }
def SplitRerootsSaid : Prop := splitRerootsRow.holds Tryz.pinned (OpenSpec.ofChange splitRerootsSpec)

/-- ITS FALSE NEIGHBOUR: 'it returns false'. Refute it at one input. -/
def splitRerootsWrong : ChangeSpec := { name := "splitReroots", fn := fun _ => fun
  | [d1, d2] => { results := [.lit (.bool false)], args := [d1, d2] }
  | _ => none }
def SplitRerootsWrongFalsely : Prop := splitRerootsRow.holds Tryz.pinned (OpenSpec.ofChange splitRerootsWrong)

/- THE SECOND FORM. 'bulk': how many values and letters a reading holds, each counted each time it is reached (what is shared counts as often as it is met; a slice's spare places count too). A statement '..UptoSaid' is the law's where the arguments, and the package variables that the reading takes, are together of bulk at most 1048576: NARROWER than '..Said'. Prove '..Said' where nothing that the law and all that it calls make is longer than what came in: it says more and counts as full. Else prove '..UptoSaid'. A law counts once. -/
mutual
def uptoBulk {H : Type} : DataW H → Nat
  | .lit (.string bytes) => bytes.length + 1
  | .lit _ => 1
  | .nil => 1
  | .ptr d => uptoBulk d + 1
  | .slice elems spare => uptoBulkAll elems + uptoBulkAll spare + 1
  | .agg parts => uptoBulkAll parts + 1
  | .iface _ d => uptoBulk d + 1
  | .map entries => uptoBulkEntries entries + 1
  | .held _ => 1
def uptoBulkAll {H : Type} : List (DataW H) → Nat
  | [] => 0
  | d :: r => uptoBulk d + uptoBulkAll r
def uptoBulkEntries {H : Type} : List (Lit × DataW H) → Nat
  | [] => 0
  | x :: r => uptoBulkEntry x + uptoBulkEntries r
def uptoBulkEntry {H : Type} : Lit × DataW H → Nat
  | (.string bytes, d) => bytes.length + uptoBulk d + 1
  | (_, d) => uptoBulk d + 1
 end
def uptoSmall : (H : Type) → List (DataW H) → Bool := fun _ ds => decide (uptoBulkAll ds ≤ 1048576)
def OpenSpec.upto (s : _root_.Go.ChangeSpec) : _root_.Go.OpenSpec := { _root_.Go.OpenSpec.ofChange s with cond := some uptoSmall }

/-- 'apographtop.TopErrors', WHERE WHAT IT READS IS OF BULK AT MOST 1048576: true; the input reads as it did. -/
def topErrorsUptoRow : OpenClaim := { program := "ytpjijbophjdgaaagreat", sum := "bb9869fbaa6d06ca899d3a67343c4d0478cadcec86ff86ab8f24108f2b1348e9", func := "apograph/apographtop.TopErrors", spec := "topErrors", inPlace := ["internal/bytealg.IndexByteString", "internal/bytealg.abigen_runtime_cmpstring"], unfollowed := true, recurses := true, apart := false, narrowed := true }
def TopErrorsUptoSaid : Prop := topErrorsUptoRow.holds Tryz.pinned (OpenSpec.upto topErrorsSpec)

/-- 'apographlaw31.PhylotreeMoves', WHERE WHAT IT READS IS OF BULK AT MOST 1048576: true; the input reads as it did. -/
def phylotreeMovesUptoRow : OpenClaim := { program := "ytpjijbophjdgaaagreat", sum := "bb9869fbaa6d06ca899d3a67343c4d0478cadcec86ff86ab8f24108f2b1348e9", func := "apograph/apographlaw31.PhylotreeMoves", spec := "phylotreeMoves", inPlace := ["internal/bytealg.IndexByteString", "internal/bytealg.IndexString", "internal/bytealg.abigen_runtime_cmpstring", "internal/abi.NoEscape"], unfollowed := true, recurses := true, named := ["internal/bytealg.MaxLen"], apart := false, narrowed := true }
def PhylotreeMovesUptoSaid : Prop := phylotreeMovesUptoRow.holds Tryz.pinned (OpenSpec.upto phylotreeMovesSpec)

/-- 'apographlaw31.PhylotreeReads', WHERE WHAT IT READS IS OF BULK AT MOST 1048576: true; the input reads as it did. -/
def phylotreeReadsUptoRow : OpenClaim := { program := "ytpjijbophjdgaaagreat", sum := "bb9869fbaa6d06ca899d3a67343c4d0478cadcec86ff86ab8f24108f2b1348e9", func := "apograph/apographlaw31.PhylotreeReads", spec := "phylotreeReads", inPlace := ["internal/bytealg.IndexByteString", "internal/bytealg.IndexString", "internal/bytealg.abigen_runtime_cmpstring", "internal/abi.NoEscape"], unfollowed := true, recurses := true, named := ["internal/bytealg.MaxLen"], apart := false, narrowed := true }
def PhylotreeReadsUptoSaid : Prop := phylotreeReadsUptoRow.holds Tryz.pinned (OpenSpec.upto phylotreeReadsSpec)

/-- 'apographlaw32.SplitTrees', WHERE WHAT IT READS IS OF BULK AT MOST 1048576: true; the input reads as it did. -/
def splitTreesUptoRow : OpenClaim := { program := "ytpjijbophjdgaaagreat", sum := "bb9869fbaa6d06ca899d3a67343c4d0478cadcec86ff86ab8f24108f2b1348e9", func := "apograph/apographlaw32.SplitTrees", spec := "splitTrees", inPlace := ["internal/bytealg.IndexByteString", "internal/bytealg.IndexString", "internal/bytealg.abigen_runtime_cmpstring", "internal/abi.NoEscape"], unfollowed := true, recurses := true, named := ["internal/bytealg.MaxLen"], apart := false, narrowed := true }
def SplitTreesUptoSaid : Prop := splitTreesUptoRow.holds Tryz.pinned (OpenSpec.upto splitTreesSpec)

/-- 'apographlaw32.SplitReroots', WHERE WHAT IT READS IS OF BULK AT MOST 1048576: true; the input reads as it did. -/
def splitRerootsUptoRow : OpenClaim := { program := "ytpjijbophjdgaaagreat", sum := "bb9869fbaa6d06ca899d3a67343c4d0478cadcec86ff86ab8f24108f2b1348e9", func := "apograph/apographlaw32.SplitReroots", spec := "splitReroots", inPlace := ["internal/bytealg.IndexByteString", "internal/bytealg.IndexString", "internal/bytealg.abigen_runtime_cmpstring", "internal/abi.NoEscape"], unfollowed := true, recurses := true, named := ["internal/bytealg.MaxLen"], apart := false, narrowed := true }
def SplitRerootsUptoSaid : Prop := splitRerootsUptoRow.holds Tryz.pinned (OpenSpec.upto splitRerootsSpec)

end Rows
end Go.Proofs.YtpjijbophjdgaaaGreat
