/-
  No cell of these rows narrows 'for every input' (looked for: loops, veiled, ifaces, maps, wideKeys, modest, calm, conditions, laid).
  DERIVED. THE GIVEN ROWS OF THIS SEAT. 3 by the template 'for every input the law returns true; each argument reads behind the call as it read before'; 0 by the template 'total and deterministic' (their statements: YtcaialhoclodjaaGreatTotals.lean).
  GIVEN WITH THE SEED: the statements are not yours to turn. If you find one false, say at which input.
  Laid BY PROGRAM, IN A SANDBOX (cutbox-rows.mjs): the forced cells as the released guide's own fill.sh prints them over the translation 0a9aac2ef28d97a8… (all of the seat's roots in one cut). By AI agents, Wed Nov 11 2026. No macro, syntax, notation, axiom, sorry.
-/
import Derived.Test.YtcaialhoclodjaaGreatChecked
import GoSem.Claim
import GoSem.ClaimJoined
import GoSem.ClaimMapViews
import Derived.JoinedTies
import Derived.KernelRfl
namespace Go.Proofs.YtcaialhoclodjaaGreat
/- THE CELL 'sum', in the pinned program and in every row, IS THE sha256 OF THE DUMP (.gsa) THAT YtcaialhoclodjaaGreatProg.lean LOADS. Nothing in Lean hashes anything: it is a label: what it is worth is what the hold of that sum in a sandbox is worth. -/
noncomputable def Tryz.pinned : Pinned := { name := "ytcaialhoclodjaagreat", sum := "0a9aac2ef28d97a8504cd9aec6552ac3b9a03e14365295d9a20b5c58bad1ee55", checked := Tryz.checked }
namespace Rows
def none {H : Type} : Left H := { results := [], args := [] }

/-- 'apographlaw31.PhylotreeMoves': WHATEVER THE INPUT: true; the input reads as it did. -/
def phylotreeMovesSpec : ChangeSpec := { name := "phylotreeMoves", fn := fun _ => fun
  | [d1, d2, d3, d4] => { results := [.lit (.bool true)], args := [d1, d2, d3, d4] }
  | _ => none }
def phylotreeMovesRow : OpenClaim := { program := "ytcaialhoclodjaagreat", sum := "0a9aac2ef28d97a8504cd9aec6552ac3b9a03e14365295d9a20b5c58bad1ee55", func := "apograph/apographlaw31.PhylotreeMoves", spec := "phylotreeMoves", inPlace := ["internal/bytealg.IndexByteString", "internal/bytealg.IndexString", "internal/bytealg.abigen_runtime_cmpstring", "internal/abi.NoEscape"], unfollowed := true, recurses := true, named := ["internal/bytealg.MaxLen"], apart := false }
def PhylotreeMovesSaid : Prop := phylotreeMovesRow.holds Tryz.pinned (OpenSpec.ofChange phylotreeMovesSpec)

/-- ITS FALSE NEIGHBOUR: 'it returns false'. Refute it at one input. -/
def phylotreeMovesWrong : ChangeSpec := { name := "phylotreeMoves", fn := fun _ => fun
  | [d1, d2, d3, d4] => { results := [.lit (.bool false)], args := [d1, d2, d3, d4] }
  | _ => none }
def PhylotreeMovesWrongFalsely : Prop := phylotreeMovesRow.holds Tryz.pinned (OpenSpec.ofChange phylotreeMovesWrong)

/-- 'apographlaw31.PhylotreeReads': WHATEVER THE INPUT: true; the input reads as it did. -/
def phylotreeReadsSpec : ChangeSpec := { name := "phylotreeReads", fn := fun _ => fun
  | [d1, d2, d3, d4] => { results := [.lit (.bool true)], args := [d1, d2, d3, d4] }
  | _ => none }
def phylotreeReadsRow : OpenClaim := { program := "ytcaialhoclodjaagreat", sum := "0a9aac2ef28d97a8504cd9aec6552ac3b9a03e14365295d9a20b5c58bad1ee55", func := "apograph/apographlaw31.PhylotreeReads", spec := "phylotreeReads", inPlace := ["internal/bytealg.IndexByteString", "internal/bytealg.IndexString", "internal/bytealg.abigen_runtime_cmpstring", "internal/abi.NoEscape"], unfollowed := true, recurses := true, named := ["internal/bytealg.MaxLen"], apart := false }
def PhylotreeReadsSaid : Prop := phylotreeReadsRow.holds Tryz.pinned (OpenSpec.ofChange phylotreeReadsSpec)

/-- ITS FALSE NEIGHBOUR: 'it returns false'. Refute it at one input. -/
def phylotreeReadsWrong : ChangeSpec := { name := "phylotreeReads", fn := fun _ => fun
  | [d1, d2, d3, d4] => { results := [.lit (.bool false)], args := [d1, d2, d3, d4] }
  | _ => none }
def PhylotreeReadsWrongFalsely : Prop := phylotreeReadsRow.holds Tryz.pinned (OpenSpec.ofChange phylotreeReadsWrong)

/-- 'apographlaw31.PhylotreeRestricted': WHATEVER THE INPUT: true; the input reads as it did. -/
def phylotreeRestrictedSpec : ChangeSpec := { name := "phylotreeRestricted", fn := fun _ => fun
  | [d1, d2, d3] => { results := [.lit (.bool true)], args := [d1, d2, d3] }
  | _ => none }
def phylotreeRestrictedRow : OpenClaim := { program := "ytcaialhoclodjaagreat", sum := "0a9aac2ef28d97a8504cd9aec6552ac3b9a03e14365295d9a20b5c58bad1ee55", func := "apograph/apographlaw31.PhylotreeRestricted", spec := "phylotreeRestricted", inPlace := ["internal/bytealg.IndexByteString", "internal/bytealg.IndexString", "internal/bytealg.abigen_runtime_cmpstring", "internal/abi.NoEscape"], unfollowed := true, recurses := true, named := ["internal/bytealg.MaxLen"], apart := false }
def PhylotreeRestrictedSaid : Prop := phylotreeRestrictedRow.holds Tryz.pinned (OpenSpec.ofChange phylotreeRestrictedSpec)

/-- ITS FALSE NEIGHBOUR: 'it returns false'. Refute it at one input. -/
def phylotreeRestrictedWrong : ChangeSpec := { name := "phylotreeRestricted", fn := fun _ => fun
  | [d1, d2, d3] => { results := [.lit (.bool false)], args := [d1, d2, d3] }
  | _ => none }
def PhylotreeRestrictedWrongFalsely : Prop := phylotreeRestrictedRow.holds Tryz.pinned (OpenSpec.ofChange phylotreeRestrictedWrong)

/- THE SECOND FORM. 'bulk': how many values and letters a reading holds, each counted each time it is reached (what is shared counts as often as it is met; a slice's spare places count too). A statement '..UptoSaid' is the law's where the arguments, and the package variables that the reading takes, are together of bulk at most 1048576: NARROWER than '..Said'. Prove '..Said' where nothing that the law and all that it calls make is longer than what came in: it says more and counts as full. Else prove '..UptoSaid'. A law counts once. -/
mutual
def uptoBulk {H : Type} : DataW H → Nat
  | .lit (.string bytes) => bytes.length + 1
  | .lit _ => 1
  | .nil => 1
  | .ptr d => uptoBulk d + 1
  | .slice elems spare => uptoBulkAll elems + uptoBulkAll spare + 1
  | .agg parts => uptoBulkAll parts + 1
  | .iface _ d => uptoBulk d + 1
  | .map entries => uptoBulkEntries entries + 1
  | .held _ => 1
def uptoBulkAll {H : Type} : List (DataW H) → Nat
  | [] => 0
  | d :: r => uptoBulk d + uptoBulkAll r
def uptoBulkEntries {H : Type} : List (Lit × DataW H) → Nat
  | [] => 0
  | x :: r => uptoBulkEntry x + uptoBulkEntries r
def uptoBulkEntry {H : Type} : Lit × DataW H → Nat
  | (.string bytes, d) => bytes.length + uptoBulk d + 1
  | (_, d) => uptoBulk d + 1
 end
def uptoSmall : (H : Type) → List (DataW H) → Bool := fun _ ds => decide (uptoBulkAll ds ≤ 1048576)
def OpenSpec.upto (s : _root_.Go.ChangeSpec) : _root_.Go.OpenSpec := { _root_.Go.OpenSpec.ofChange s with cond := some uptoSmall }

/-- 'apographlaw31.PhylotreeMoves', WHERE WHAT IT READS IS OF BULK AT MOST 1048576: true; the input reads as it did. -/
def phylotreeMovesUptoRow : OpenClaim := { program := "ytcaialhoclodjaagreat", sum := "0a9aac2ef28d97a8504cd9aec6552ac3b9a03e14365295d9a20b5c58bad1ee55", func := "apograph/apographlaw31.PhylotreeMoves", spec := "phylotreeMoves", inPlace := ["internal/bytealg.IndexByteString", "internal/bytealg.IndexString", "internal/bytealg.abigen_runtime_cmpstring", "internal/abi.NoEscape"], unfollowed := true, recurses := true, named := ["internal/bytealg.MaxLen"], apart := false, narrowed := true }
def PhylotreeMovesUptoSaid : Prop := phylotreeMovesUptoRow.holds Tryz.pinned (OpenSpec.upto phylotreeMovesSpec)

/-- 'apographlaw31.PhylotreeReads', WHERE WHAT IT READS IS OF BULK AT MOST 1048576: true; the input reads as it did. -/
def phylotreeReadsUptoRow : OpenClaim := { program := "ytcaialhoclodjaagreat", sum := "0a9aac2ef28d97a8504cd9aec6552ac3b9a03e14365295d9a20b5c58bad1ee55", func := "apograph/apographlaw31.PhylotreeReads", spec := "phylotreeReads", inPlace := ["internal/bytealg.IndexByteString", "internal/bytealg.IndexString", "internal/bytealg.abigen_runtime_cmpstring", "internal/abi.NoEscape"], unfollowed := true, recurses := true, named := ["internal/bytealg.MaxLen"], apart := false, narrowed := true }
def PhylotreeReadsUptoSaid : Prop := phylotreeReadsUptoRow.holds Tryz.pinned (OpenSpec.upto phylotreeReadsSpec)

/-- 'apographlaw31.PhylotreeRestricted', WHERE WHAT IT READS IS OF BULK AT MOST 1048576: true; the input reads as it did. -/
def phylotreeRestrictedUptoRow : OpenClaim := { program := "ytcaialhoclodjaagreat", sum := "0a9aac2ef28d97a8504cd9aec6552ac3b9a03e14365295d9a20b5c58bad1ee55", func := "apograph/apographlaw31.PhylotreeRestricted", spec := "phylotreeRestricted", inPlace := ["internal/bytealg.IndexByteString", "internal/bytealg.IndexString", "internal/bytealg.abigen_runtime_cmpstring", "internal/abi.NoEscape"], unfollowed := true, recurses := true, named := ["internal/bytealg.MaxLen"], apart := false, narrowed := true }
def PhylotreeRestrictedUptoSaid : Prop := phylotreeRestrictedUptoRow.holds Tryz.pinned (OpenSpec.upto phylotreeRestrictedSpec)

end Rows
end Go.Proofs.YtcaialhoclodjaaGreat
