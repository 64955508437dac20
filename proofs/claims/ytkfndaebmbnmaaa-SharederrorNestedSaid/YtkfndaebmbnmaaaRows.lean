/-
  No cell of these rows narrows 'for every input' (looked for: loops, veiled, ifaces, maps, wideKeys, modest, calm, conditions, laid).
  DERIVED. THE GIVEN ROWS OF THIS SEAT. 7 by the template 'for every input the law returns true; each argument reads behind the call as it read before'; 0 by the template 'total and deterministic' (their statements: YtkfndaebmbnmaaaTotals.lean).
  GIVEN WITH THE SEED: the statements are not yours to turn. If you find one false, say at which input.
  Laid BY PROGRAM, IN A SANDBOX (cutbox-rows.mjs): the forced cells as the released guide's own fill.sh prints them over the translation c10c184ab81a08c9… (all of the seat's roots in one cut). By AI agents, Wed Nov 11 2026. No macro, syntax, notation, axiom, sorry.
-/
import Derived.Test.YtkfndaebmbnmaaaChecked
import GoSem.Claim
import GoSem.ClaimJoined
import GoSem.ClaimMapViews
import Derived.JoinedTies
import Derived.KernelRfl
namespace Go.Proofs.Ytkfndaebmbnmaaa
/- THE CELL 'sum', in the pinned program and in every row, IS THE sha256 OF THE DUMP (.gsa) THAT YtkfndaebmbnmaaaProg.lean LOADS. Nothing in Lean hashes anything: it is a label: what it is worth is what the hold of that sum in a sandbox is worth. -/
noncomputable def Try.pinned : Pinned := { name := "ytkfndaebmbnmaaa", sum := "c10c184ab81a08c92dd58cb8009168c4d335a4c4fc05eb9679bcb5ecb568ba84", checked := Try.checked }
namespace Rows
def none {H : Type} : Left H := { results := [], args := [] }

/-- 'apographlaw35.SharederrorMembers': WHATEVER THE INPUT: true; the input reads as it did. -/
def sharederrorMembersSpec : ChangeSpec := { name := "sharederrorMembers", fn := fun _ => fun
  | [d1, d2] => { results := [.lit (.bool true)], args := [d1, d2] }
  | _ => none }
def sharederrorMembersRow : OpenClaim := { program := "ytkfndaebmbnmaaa", sum := "c10c184ab81a08c92dd58cb8009168c4d335a4c4fc05eb9679bcb5ecb568ba84", func := "apograph/apographlaw35.SharederrorMembers", spec := "sharederrorMembers", inPlace := ["internal/bytealg.IndexByteString", "internal/bytealg.abigen_runtime_cmpstring"], unfollowed := true, recurses := true, apart := false }
def SharederrorMembersSaid : Prop := sharederrorMembersRow.holds Try.pinned (OpenSpec.ofChange sharederrorMembersSpec)

/-- ITS FALSE NEIGHBOUR: 'it returns false'. Refute it at one input. -/
def sharederrorMembersWrong : ChangeSpec := { name := "sharederrorMembers", fn := fun _ => fun
  | [d1, d2] => { results := [.lit (.bool false)], args := [d1, d2] }
  | _ => none }
def SharederrorMembersWrongFalsely : Prop := sharederrorMembersRow.holds Try.pinned (OpenSpec.ofChange sharederrorMembersWrong)

/-- 'apographlaw35.SharederrorPairs': WHATEVER THE INPUT: true; the input reads as it did. -/
def sharederrorPairsSpec : ChangeSpec := { name := "sharederrorPairs", fn := fun _ => fun
  | [d] => { results := [.lit (.bool true)], args := [d] }
  | _ => none }
def sharederrorPairsRow : OpenClaim := { program := "ytkfndaebmbnmaaa", sum := "c10c184ab81a08c92dd58cb8009168c4d335a4c4fc05eb9679bcb5ecb568ba84", func := "apograph/apographlaw35.SharederrorPairs", spec := "sharederrorPairs", inPlace := ["internal/bytealg.IndexByteString", "internal/bytealg.abigen_runtime_cmpstring"], unfollowed := true, recurses := true, apart := false }
def SharederrorPairsSaid : Prop := sharederrorPairsRow.holds Try.pinned (OpenSpec.ofChange sharederrorPairsSpec)

/-- ITS FALSE NEIGHBOUR: 'it returns false'. Refute it at one input. -/
def sharederrorPairsWrong : ChangeSpec := { name := "sharederrorPairs", fn := fun _ => fun
  | [d] => { results := [.lit (.bool false)], args := [d] }
  | _ => none }
def SharederrorPairsWrongFalsely : Prop := sharederrorPairsRow.holds Try.pinned (OpenSpec.ofChange sharederrorPairsWrong)

/-- 'apographlaw35.SharederrorSupport': WHATEVER THE INPUT: true; the input reads as it did. -/
def sharederrorSupportSpec : ChangeSpec := { name := "sharederrorSupport", fn := fun _ => fun
  | [d1, d2] => { results := [.lit (.bool true)], args := [d1, d2] }
  | _ => none }
def sharederrorSupportRow : OpenClaim := { program := "ytkfndaebmbnmaaa", sum := "c10c184ab81a08c92dd58cb8009168c4d335a4c4fc05eb9679bcb5ecb568ba84", func := "apograph/apographlaw35.SharederrorSupport", spec := "sharederrorSupport", inPlace := ["internal/bytealg.IndexByteString", "internal/bytealg.abigen_runtime_cmpstring"], unfollowed := true, recurses := true, apart := false }
def SharederrorSupportSaid : Prop := sharederrorSupportRow.holds Try.pinned (OpenSpec.ofChange sharederrorSupportSpec)

/-- ITS FALSE NEIGHBOUR: 'it returns false'. Refute it at one input. -/
def sharederrorSupportWrong : ChangeSpec := { name := "sharederrorSupport", fn := fun _ => fun
  | [d1, d2] => { results := [.lit (.bool false)], args := [d1, d2] }
  | _ => none }
def SharederrorSupportWrongFalsely : Prop := sharederrorSupportRow.holds Try.pinned (OpenSpec.ofChange sharederrorSupportWrong)

/-- 'apographlaw35.SharederrorOriginal': WHATEVER THE INPUT: true; the input reads as it did. -/
def sharederrorOriginalSpec : ChangeSpec := { name := "sharederrorOriginal", fn := fun _ => fun
  | [d1, d2] => { results := [.lit (.bool true)], args := [d1, d2] }
  | _ => none }
def sharederrorOriginalRow : OpenClaim := { program := "ytkfndaebmbnmaaa", sum := "c10c184ab81a08c92dd58cb8009168c4d335a4c4fc05eb9679bcb5ecb568ba84", func := "apograph/apographlaw35.SharederrorOriginal", spec := "sharederrorOriginal", inPlace := ["internal/bytealg.IndexByteString", "internal/bytealg.abigen_runtime_cmpstring"], unfollowed := true, recurses := true, apart := false }
def SharederrorOriginalSaid : Prop := sharederrorOriginalRow.holds Try.pinned (OpenSpec.ofChange sharederrorOriginalSpec)

/-- ITS FALSE NEIGHBOUR: 'it returns false'. Refute it at one input. -/
def sharederrorOriginalWrong : ChangeSpec := { name := "sharederrorOriginal", fn := fun _ => fun
  | [d1, d2] => { results := [.lit (.bool false)], args := [d1, d2] }
  | _ => none }
def SharederrorOriginalWrongFalsely : Prop := sharederrorOriginalRow.holds Try.pinned (OpenSpec.ofChange sharederrorOriginalWrong)

/-- 'apographlaw35.SharederrorGroups': WHATEVER THE INPUT: true; the input reads as it did. -/
def sharederrorGroupsSpec : ChangeSpec := { name := "sharederrorGroups", fn := fun _ => fun
  | [d1, d2, d3, d4, d5] => { results := [.lit (.bool true)], args := [d1, d2, d3, d4, d5] }
  | _ => none }
def sharederrorGroupsRow : OpenClaim := { program := "ytkfndaebmbnmaaa", sum := "c10c184ab81a08c92dd58cb8009168c4d335a4c4fc05eb9679bcb5ecb568ba84", func := "apograph/apographlaw35.SharederrorGroups", spec := "sharederrorGroups", inPlace := ["internal/bytealg.IndexByteString", "internal/bytealg.abigen_runtime_cmpstring"], unfollowed := true, recurses := true, apart := false }
def SharederrorGroupsSaid : Prop := sharederrorGroupsRow.holds Try.pinned (OpenSpec.ofChange sharederrorGroupsSpec)

/-- ITS FALSE NEIGHBOUR: 'it returns false'. Refute it at one input. -/
def sharederrorGroupsWrong : ChangeSpec := { name := "sharederrorGroups", fn := fun _ => fun
  | [d1, d2, d3, d4, d5] => { results := [.lit (.bool false)], args := [d1, d2, d3, d4, d5] }
  | _ => none }
def SharederrorGroupsWrongFalsely : Prop := sharederrorGroupsRow.holds Try.pinned (OpenSpec.ofChange sharederrorGroupsWrong)

/-- 'apographlaw35.SharederrorLeaves': WHATEVER THE INPUT: true; the input reads as it did. -/
def sharederrorLeavesSpec : ChangeSpec := { name := "sharederrorLeaves", fn := fun _ => fun
  | [d1, d2] => { results := [.lit (.bool true)], args := [d1, d2] }
  | _ => none }
def sharederrorLeavesRow : OpenClaim := { program := "ytkfndaebmbnmaaa", sum := "c10c184ab81a08c92dd58cb8009168c4d335a4c4fc05eb9679bcb5ecb568ba84", func := "apograph/apographlaw35.SharederrorLeaves", spec := "sharederrorLeaves", inPlace := ["internal/bytealg.IndexByteString", "internal/bytealg.abigen_runtime_cmpstring"], unfollowed := true, recurses := true, apart := false }
def SharederrorLeavesSaid : Prop := sharederrorLeavesRow.holds Try.pinned (OpenSpec.ofChange sharederrorLeavesSpec)

/-- ITS FALSE NEIGHBOUR: 'it returns false'. Refute it at one input. -/
def sharederrorLeavesWrong : ChangeSpec := { name := "sharederrorLeaves", fn := fun _ => fun
  | [d1, d2] => { results := [.lit (.bool false)], args := [d1, d2] }
  | _ => none }
def SharederrorLeavesWrongFalsely : Prop := sharederrorLeavesRow.holds Try.pinned (OpenSpec.ofChange sharederrorLeavesWrong)

/-- 'apographlaw35.SharederrorNested': WHATEVER THE INPUT: true; the input reads as it did. -/
def sharederrorNestedSpec : ChangeSpec := { name := "sharederrorNested", fn := fun _ => fun
  | [d1, d2] => { results := [.lit (.bool true)], args := [d1, d2] }
  | _ => none }
def sharederrorNestedRow : OpenClaim := { program := "ytkfndaebmbnmaaa", sum := "c10c184ab81a08c92dd58cb8009168c4d335a4c4fc05eb9679bcb5ecb568ba84", func := "apograph/apographlaw35.SharederrorNested", spec := "sharederrorNested", inPlace := ["internal/bytealg.IndexByteString", "internal/bytealg.abigen_runtime_cmpstring"], unfollowed := true, recurses := true, apart := false }
def SharederrorNestedSaid : Prop := sharederrorNestedRow.holds Try.pinned (OpenSpec.ofChange sharederrorNestedSpec)

/-- ITS FALSE NEIGHBOUR: 'it returns false'. Refute it at one input. -/
def sharederrorNestedWrong : ChangeSpec := { name := "sharederrorNested", fn := fun _ => fun
  | [d1, d2] => { results := [.lit (.bool false)], args := [d1, d2] }
  | _ => none }
def SharederrorNestedWrongFalsely : Prop := sharederrorNestedRow.holds Try.pinned (OpenSpec.ofChange sharederrorNestedWrong)

/- THE SECOND FORM. 'bulk': how many values and letters a reading holds, each counted each time it is reached (what is shared counts as often as it is met; a slice's spare places count too). A statement '..UptoSaid' is the law's where the arguments, and the package variables that the reading takes, are together of bulk at most 1048576: NARROWER than '..Said'. Prove '..Said' where nothing that the law and all that it calls make is longer than what came in: it says more and counts as full. Else prove '..UptoSaid'. A law counts once. -/
mutual
def uptoBulk {H : Type} : DataW H → Nat
  | .lit (.string bytes) => bytes.length + 1
  | .lit _ => 1
  | .nil => 1
  | .ptr d => uptoBulk d + 1
  | .slice elems spare => uptoBulkAll elems + uptoBulkAll spare + 1
  | .agg parts => uptoBulkAll parts + 1
  | .iface _ d => uptoBulk d + 1
  | .map entries => uptoBulkEntries entries + 1
  | .held _ => 1
def uptoBulkAll {H : Type} : List (DataW H) → Nat
  | [] => 0
  | d :: r => uptoBulk d + uptoBulkAll r
def uptoBulkEntries {H : Type} : List (Lit × DataW H) → Nat
  | [] => 0
  | x :: r => uptoBulkEntry x + uptoBulkEntries r
def uptoBulkEntry {H : Type} : Lit × DataW H → Nat
  | (.string bytes, d) => bytes.length + uptoBulk d + 1
  | (_, d) => uptoBulk d + 1
 end
def uptoSmall : (H : Type) → List (DataW H) → Bool := fun _ ds => decide (uptoBulkAll ds ≤ 1048576)
def OpenSpec.upto (s : _root_.Go.ChangeSpec) : _root_.Go.OpenSpec := { _root_.Go.OpenSpec.ofChange s with cond := some uptoSmall }

/-- 'apographlaw35.SharederrorMembers', WHERE WHAT IT READS IS OF BULK AT MOST 1048576: true; the input reads as it did. -/
def sharederrorMembersUptoRow : OpenClaim := { program := "ytkfndaebmbnmaaa", sum := "c10c184ab81a08c92dd58cb8009168c4d335a4c4fc05eb9679bcb5ecb568ba84", func := "apograph/apographlaw35.SharederrorMembers", spec := "sharederrorMembers", inPlace := ["internal/bytealg.IndexByteString", "internal/bytealg.abigen_runtime_cmpstring"], unfollowed := true, recurses := true, apart := false, narrowed := true }
def SharederrorMembersUptoSaid : Prop := sharederrorMembersUptoRow.holds Try.pinned (OpenSpec.upto sharederrorMembersSpec)

/-- 'apographlaw35.SharederrorPairs', WHERE WHAT IT READS IS OF BULK AT MOST 1048576: true; the input reads as it did. -/
def sharederrorPairsUptoRow : OpenClaim := { program := "ytkfndaebmbnmaaa", sum := "c10c184ab81a08c92dd58cb8009168c4d335a4c4fc05eb9679bcb5ecb568ba84", func := "apograph/apographlaw35.SharederrorPairs", spec := "sharederrorPairs", inPlace := ["internal/bytealg.IndexByteString", "internal/bytealg.abigen_runtime_cmpstring"], unfollowed := true, recurses := true, apart := false, narrowed := true }
def SharederrorPairsUptoSaid : Prop := sharederrorPairsUptoRow.holds Try.pinned (OpenSpec.upto sharederrorPairsSpec)

/-- 'apographlaw35.SharederrorSupport', WHERE WHAT IT READS IS OF BULK AT MOST 1048576: true; the input reads as it did. -/
def sharederrorSupportUptoRow : OpenClaim := { program := "ytkfndaebmbnmaaa", sum := "c10c184ab81a08c92dd58cb8009168c4d335a4c4fc05eb9679bcb5ecb568ba84", func := "apograph/apographlaw35.SharederrorSupport", spec := "sharederrorSupport", inPlace := ["internal/bytealg.IndexByteString", "internal/bytealg.abigen_runtime_cmpstring"], unfollowed := true, recurses := true, apart := false, narrowed := true }
def SharederrorSupportUptoSaid : Prop := sharederrorSupportUptoRow.holds Try.pinned (OpenSpec.upto sharederrorSupportSpec)

/-- 'apographlaw35.SharederrorOriginal', WHERE WHAT IT READS IS OF BULK AT MOST 1048576: true; the input reads as it did. -/
def sharederrorOriginalUptoRow : OpenClaim := { program := "ytkfndaebmbnmaaa", sum := "c10c184ab81a08c92dd58cb8009168c4d335a4c4fc05eb9679bcb5ecb568ba84", func := "apograph/apographlaw35.SharederrorOriginal", spec := "sharederrorOriginal", inPlace := ["internal/bytealg.IndexByteString", "internal/bytealg.abigen_runtime_cmpstring"], unfollowed := true, recurses := true, apart := false, narrowed := true }
def SharederrorOriginalUptoSaid : Prop := sharederrorOriginalUptoRow.holds Try.pinned (OpenSpec.upto sharederrorOriginalSpec)

/-- 'apographlaw35.SharederrorGroups', WHERE WHAT IT READS IS OF BULK AT MOST 1048576: true; the input reads as it did. -/
def sharederrorGroupsUptoRow : OpenClaim := { program := "ytkfndaebmbnmaaa", sum := "c10c184ab81a08c92dd58cb8009168c4d335a4c4fc05eb9679bcb5ecb568ba84", func := "apograph/apographlaw35.SharederrorGroups", spec := "sharederrorGroups", inPlace := ["internal/bytealg.IndexByteString", "internal/bytealg.abigen_runtime_cmpstring"], unfollowed := true, recurses := true, apart := false, narrowed := true }
def SharederrorGroupsUptoSaid : Prop := sharederrorGroupsUptoRow.holds Try.pinned (OpenSpec.upto sharederrorGroupsSpec)

/-- 'apographlaw35.SharederrorLeaves', WHERE WHAT IT READS IS OF BULK AT MOST 1048576: true; the input reads as it did. -/
def sharederrorLeavesUptoRow : OpenClaim := { program := "ytkfndaebmbnmaaa", sum := "c10c184ab81a08c92dd58cb8009168c4d335a4c4fc05eb9679bcb5ecb568ba84", func := "apograph/apographlaw35.SharederrorLeaves", spec := "sharederrorLeaves", inPlace := ["internal/bytealg.IndexByteString", "internal/bytealg.abigen_runtime_cmpstring"], unfollowed := true, recurses := true, apart := false, narrowed := true }
def SharederrorLeavesUptoSaid : Prop := sharederrorLeavesUptoRow.holds Try.pinned (OpenSpec.upto sharederrorLeavesSpec)

/-- 'apographlaw35.SharederrorNested', WHERE WHAT IT READS IS OF BULK AT MOST 1048576: true; the input reads as it did. -/
def sharederrorNestedUptoRow : OpenClaim := { program := "ytkfndaebmbnmaaa", sum := "c10c184ab81a08c92dd58cb8009168c4d335a4c4fc05eb9679bcb5ecb568ba84", func := "apograph/apographlaw35.SharederrorNested", spec := "sharederrorNested", inPlace := ["internal/bytealg.IndexByteString", "internal/bytealg.abigen_runtime_cmpstring"], unfollowed := true, recurses := true, apart := false, narrowed := true }
def SharederrorNestedUptoSaid : Prop := sharederrorNestedUptoRow.holds Try.pinned (OpenSpec.upto sharederrorNestedSpec)

end Rows
end Go.Proofs.Ytkfndaebmbnmaaa
