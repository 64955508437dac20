/-
  No cell of these rows narrows 'for every input' (looked for: loops, veiled, ifaces, maps, wideKeys, modest, calm, conditions, laid).
  DERIVED. THE GIVEN ROWS OF THIS SEAT. 6 by the template 'for every input the law returns true; each argument reads behind the call as it read before'; 0 by the template 'total and deterministic' (their statements: YtcaialhoclodjaaTotals.lean).
  GIVEN WITH THE SEED: the statements are not yours to turn. If you find one false, say at which input.
  Laid BY PROGRAM, IN A SANDBOX (cutbox-rows.mjs): the forced cells as the released guide's own fill.sh prints them over the translation 4ef2d4b287852834… (all of the seat's roots in one cut). By AI agents, Wed Nov 11 2026. No macro, syntax, notation, axiom, sorry.
-/
import Derived.Test.YtcaialhoclodjaaChecked
import GoSem.Claim
import GoSem.ClaimJoined
import GoSem.ClaimMapViews
import Derived.JoinedTies
import Derived.KernelRfl
namespace Go.Proofs.Ytcaialhoclodjaa
/- THE CELL 'sum', in the pinned program and in every row, IS THE sha256 OF THE DUMP (.gsa) THAT YtcaialhoclodjaaProg.lean LOADS. Nothing in Lean hashes anything: it is a label: what it is worth is what the hold of that sum in a sandbox is worth. -/
noncomputable def Try.pinned : Pinned := { name := "ytcaialhoclodjaa", sum := "4ef2d4b287852834580159b1ed14456219d4ab30e9ece310f5486340f0c59416", checked := Try.checked }
namespace Rows
def none {H : Type} : Left H := { results := [], args := [] }

/-- 'apographlaw33.ParsimonyRoots': WHATEVER THE INPUT: true; the input reads as it did. -/
def parsimonyRootsSpec : ChangeSpec := { name := "parsimonyRoots", fn := fun _ => fun
  | [d1, d2, d3, d4] => { results := [.lit (.bool true)], args := [d1, d2, d3, d4] }
  | _ => none }
def parsimonyRootsRow : OpenClaim := { program := "ytcaialhoclodjaa", sum := "4ef2d4b287852834580159b1ed14456219d4ab30e9ece310f5486340f0c59416", func := "apograph/apographlaw33.ParsimonyRoots", spec := "parsimonyRoots", inPlace := ["internal/bytealg.IndexByteString", "internal/bytealg.abigen_runtime_cmpstring"], unfollowed := true, recurses := true, apart := false }
def ParsimonyRootsSaid : Prop := parsimonyRootsRow.holds Try.pinned (OpenSpec.ofChange parsimonyRootsSpec)

/-- ITS FALSE NEIGHBOUR: 'it returns false'. Refute it at one input. -/
def parsimonyRootsWrong : ChangeSpec := { name := "parsimonyRoots", fn := fun _ => fun
  | [d1, d2, d3, d4] => { results := [.lit (.bool false)], args := [d1, d2, d3, d4] }
  | _ => none }
def ParsimonyRootsWrongFalsely : Prop := parsimonyRootsRow.holds Try.pinned (OpenSpec.ofChange parsimonyRootsWrong)

/-- 'apographlaw31.PhylotreeAncestors': WHATEVER THE INPUT: true; the input reads as it did. -/
def phylotreeAncestorsSpec : ChangeSpec := { name := "phylotreeAncestors", fn := fun _ => fun
  | [d1, d2, d3] => { results := [.lit (.bool true)], args := [d1, d2, d3] }
  | _ => none }
def phylotreeAncestorsRow : OpenClaim := { program := "ytcaialhoclodjaa", sum := "4ef2d4b287852834580159b1ed14456219d4ab30e9ece310f5486340f0c59416", func := "apograph/apographlaw31.PhylotreeAncestors", spec := "phylotreeAncestors", inPlace := ["internal/bytealg.IndexByteString", "internal/bytealg.IndexString", "internal/bytealg.abigen_runtime_cmpstring", "internal/abi.NoEscape"], unfollowed := true, recurses := true, named := ["internal/bytealg.MaxLen"], apart := false }
def PhylotreeAncestorsSaid : Prop := phylotreeAncestorsRow.holds Try.pinned (OpenSpec.ofChange phylotreeAncestorsSpec)

/-- ITS FALSE NEIGHBOUR: 'it returns false'. Refute it at one input. -/
def phylotreeAncestorsWrong : ChangeSpec := { name := "phylotreeAncestors", fn := fun _ => fun
  | [d1, d2, d3] => { results := [.lit (.bool false)], args := [d1, d2, d3] }
  | _ => none }
def PhylotreeAncestorsWrongFalsely : Prop := phylotreeAncestorsRow.holds Try.pinned (OpenSpec.ofChange phylotreeAncestorsWrong)

/-- 'apographlaw31.PhylotreeTexts': WHATEVER THE INPUT: true; the input reads as it did. -/
def phylotreeTextsSpec : ChangeSpec := { name := "phylotreeTexts", fn := fun _ => fun
  | [d1, d2] => { results := [.lit (.bool true)], args := [d1, d2] }
  | _ => none }
def phylotreeTextsRow : OpenClaim := { program := "ytcaialhoclodjaa", sum := "4ef2d4b287852834580159b1ed14456219d4ab30e9ece310f5486340f0c59416", func := "apograph/apographlaw31.PhylotreeTexts", spec := "phylotreeTexts", inPlace := ["internal/bytealg.IndexByteString", "internal/bytealg.IndexString", "internal/bytealg.abigen_runtime_cmpstring", "internal/abi.NoEscape"], unfollowed := true, recurses := true, named := ["internal/bytealg.MaxLen"], apart := false }
def PhylotreeTextsSaid : Prop := phylotreeTextsRow.holds Try.pinned (OpenSpec.ofChange phylotreeTextsSpec)

/-- ITS FALSE NEIGHBOUR: 'it returns false'. Refute it at one input. -/
def phylotreeTextsWrong : ChangeSpec := { name := "phylotreeTexts", fn := fun _ => fun
  | [d1, d2] => { results := [.lit (.bool false)], args := [d1, d2] }
  | _ => none }
def PhylotreeTextsWrongFalsely : Prop := phylotreeTextsRow.holds Try.pinned (OpenSpec.ofChange phylotreeTextsWrong)

/-- 'apographlaw31.PhylotreeEqual': WHATEVER THE INPUT: true; the input reads as it did. -/
def phylotreeEqualSpec : ChangeSpec := { name := "phylotreeEqual", fn := fun _ => fun
  | [d1, d2] => { results := [.lit (.bool true)], args := [d1, d2] }
  | _ => none }
def phylotreeEqualRow : OpenClaim := { program := "ytcaialhoclodjaa", sum := "4ef2d4b287852834580159b1ed14456219d4ab30e9ece310f5486340f0c59416", func := "apograph/apographlaw31.PhylotreeEqual", spec := "phylotreeEqual", inPlace := ["internal/bytealg.IndexByteString", "internal/bytealg.IndexString", "internal/bytealg.abigen_runtime_cmpstring", "internal/abi.NoEscape"], unfollowed := true, recurses := true, named := ["internal/bytealg.MaxLen"], apart := false }
def PhylotreeEqualSaid : Prop := phylotreeEqualRow.holds Try.pinned (OpenSpec.ofChange phylotreeEqualSpec)

/-- ITS FALSE NEIGHBOUR: 'it returns false'. Refute it at one input. -/
def phylotreeEqualWrong : ChangeSpec := { name := "phylotreeEqual", fn := fun _ => fun
  | [d1, d2] => { results := [.lit (.bool false)], args := [d1, d2] }
  | _ => none }
def PhylotreeEqualWrongFalsely : Prop := phylotreeEqualRow.holds Try.pinned (OpenSpec.ofChange phylotreeEqualWrong)

/-- 'apographlaw31.PhylotreeRerooted': WHATEVER THE INPUT: true; the input reads as it did. -/
def phylotreeRerootedSpec : ChangeSpec := { name := "phylotreeRerooted", fn := fun _ => fun
  | [d1, d2, d3] => { results := [.lit (.bool true)], args := [d1, d2, d3] }
  | _ => none }
def phylotreeRerootedRow : OpenClaim := { program := "ytcaialhoclodjaa", sum := "4ef2d4b287852834580159b1ed14456219d4ab30e9ece310f5486340f0c59416", func := "apograph/apographlaw31.PhylotreeRerooted", spec := "phylotreeRerooted", inPlace := ["internal/bytealg.IndexByteString", "internal/bytealg.IndexString", "internal/bytealg.abigen_runtime_cmpstring", "internal/abi.NoEscape"], unfollowed := true, recurses := true, named := ["internal/bytealg.MaxLen"], apart := false }
def PhylotreeRerootedSaid : Prop := phylotreeRerootedRow.holds Try.pinned (OpenSpec.ofChange phylotreeRerootedSpec)

/-- ITS FALSE NEIGHBOUR: 'it returns false'. Refute it at one input. -/
def phylotreeRerootedWrong : ChangeSpec := { name := "phylotreeRerooted", fn := fun _ => fun
  | [d1, d2, d3] => { results := [.lit (.bool false)], args := [d1, d2, d3] }
  | _ => none }
def PhylotreeRerootedWrongFalsely : Prop := phylotreeRerootedRow.holds Try.pinned (OpenSpec.ofChange phylotreeRerootedWrong)

/-- 'apographlaw31.PhylotreeCanonical': WHATEVER THE INPUT: true; the input reads as it did. -/
def phylotreeCanonicalSpec : ChangeSpec := { name := "phylotreeCanonical", fn := fun _ => fun
  | [d] => { results := [.lit (.bool true)], args := [d] }
  | _ => none }
def phylotreeCanonicalRow : OpenClaim := { program := "ytcaialhoclodjaa", sum := "4ef2d4b287852834580159b1ed14456219d4ab30e9ece310f5486340f0c59416", func := "apograph/apographlaw31.PhylotreeCanonical", spec := "phylotreeCanonical", inPlace := ["internal/bytealg.IndexByteString", "internal/bytealg.IndexString", "internal/bytealg.abigen_runtime_cmpstring", "internal/abi.NoEscape"], unfollowed := true, recurses := true, named := ["internal/bytealg.MaxLen"], apart := false }
def PhylotreeCanonicalSaid : Prop := phylotreeCanonicalRow.holds Try.pinned (OpenSpec.ofChange phylotreeCanonicalSpec)

/-- ITS FALSE NEIGHBOUR: 'it returns false'. Refute it at one input. -/
def phylotreeCanonicalWrong : ChangeSpec := { name := "phylotreeCanonical", fn := fun _ => fun
  | [d] => { results := [.lit (.bool false)], args := [d] }
  | _ => none }
def PhylotreeCanonicalWrongFalsely : Prop := phylotreeCanonicalRow.holds Try.pinned (OpenSpec.ofChange phylotreeCanonicalWrong)

/- THE SECOND FORM. 'bulk': how many values and letters a reading holds, each counted each time it is reached (what is shared counts as often as it is met; a slice's spare places count too). A statement '..UptoSaid' is the law's where the arguments, and the package variables that the reading takes, are together of bulk at most 1048576: NARROWER than '..Said'. Prove '..Said' where nothing that the law and all that it calls make is longer than what came in: it says more and counts as full. Else prove '..UptoSaid'. A law counts once. -/
mutual
def uptoBulk {H : Type} : DataW H → Nat
  | .lit (.string bytes) => bytes.length + 1
  | .lit _ => 1
  | .nil => 1
  | .ptr d => uptoBulk d + 1
  | .slice elems spare => uptoBulkAll elems + uptoBulkAll spare + 1
  | .agg parts => uptoBulkAll parts + 1
  | .iface _ d => uptoBulk d + 1
  | .map entries => uptoBulkEntries entries + 1
  | .held _ => 1
def uptoBulkAll {H : Type} : List (DataW H) → Nat
  | [] => 0
  | d :: r => uptoBulk d + uptoBulkAll r
def uptoBulkEntries {H : Type} : List (Lit × DataW H) → Nat
  | [] => 0
  | x :: r => uptoBulkEntry x + uptoBulkEntries r
def uptoBulkEntry {H : Type} : Lit × DataW H → Nat
  | (.string bytes, d) => bytes.length + uptoBulk d + 1
  | (_, d) => uptoBulk d + 1
 end
def uptoSmall : (H : Type) → List (DataW H) → Bool := fun _ ds => decide (uptoBulkAll ds ≤ 1048576)
def OpenSpec.upto (s : _root_.Go.ChangeSpec) : _root_.Go.OpenSpec := { _root_.Go.OpenSpec.ofChange s with cond := some uptoSmall }

/-- 'apographlaw33.ParsimonyRoots', WHERE WHAT IT READS IS OF BULK AT MOST 1048576: true; the input reads as it did. -/
def parsimonyRootsUptoRow : OpenClaim := { program := "ytcaialhoclodjaa", sum := "4ef2d4b287852834580159b1ed14456219d4ab30e9ece310f5486340f0c59416", func := "apograph/apographlaw33.ParsimonyRoots", spec := "parsimonyRoots", inPlace := ["internal/bytealg.IndexByteString", "internal/bytealg.abigen_runtime_cmpstring"], unfollowed := true, recurses := true, apart := false, narrowed := true }
def ParsimonyRootsUptoSaid : Prop := parsimonyRootsUptoRow.holds Try.pinned (OpenSpec.upto parsimonyRootsSpec)

/-- 'apographlaw31.PhylotreeAncestors', WHERE WHAT IT READS IS OF BULK AT MOST 1048576: true; the input reads as it did. -/
def phylotreeAncestorsUptoRow : OpenClaim := { program := "ytcaialhoclodjaa", sum := "4ef2d4b287852834580159b1ed14456219d4ab30e9ece310f5486340f0c59416", func := "apograph/apographlaw31.PhylotreeAncestors", spec := "phylotreeAncestors", inPlace := ["internal/bytealg.IndexByteString", "internal/bytealg.IndexString", "internal/bytealg.abigen_runtime_cmpstring", "internal/abi.NoEscape"], unfollowed := true, recurses := true, named := ["internal/bytealg.MaxLen"], apart := false, narrowed := true }
def PhylotreeAncestorsUptoSaid : Prop := phylotreeAncestorsUptoRow.holds Try.pinned (OpenSpec.upto phylotreeAncestorsSpec)

/-- 'apographlaw31.PhylotreeTexts', WHERE WHAT IT READS IS OF BULK AT MOST 1048576: true; the input reads as it did. -/
def phylotreeTextsUptoRow : OpenClaim := { program := "ytcaialhoclodjaa", sum := "4ef2d4b287852834580159b1ed14456219d4ab30e9ece310f5486340f0c59416", func := "apograph/apographlaw31.PhylotreeTexts", spec := "phylotreeTexts", inPlace := ["internal/bytealg.IndexByteString", "internal/bytealg.IndexString", "internal/bytealg.abigen_runtime_cmpstring", "internal/abi.NoEscape"], unfollowed := true, recurses := true, named := ["internal/bytealg.MaxLen"], apart := false, narrowed := true }
def PhylotreeTextsUptoSaid : Prop := phylotreeTextsUptoRow.holds Try.pinned (OpenSpec.upto phylotreeTextsSpec)

/-- 'apographlaw31.PhylotreeEqual', WHERE WHAT IT READS IS OF BULK AT MOST 1048576: true; the input reads as it did. -/
def phylotreeEqualUptoRow : OpenClaim := { program := "ytcaialhoclodjaa", sum := "4ef2d4b287852834580159b1ed14456219d4ab30e9ece310f5486340f0c59416", func := "apograph/apographlaw31.PhylotreeEqual", spec := "phylotreeEqual", inPlace := ["internal/bytealg.IndexByteString", "internal/bytealg.IndexString", "internal/bytealg.abigen_runtime_cmpstring", "internal/abi.NoEscape"], unfollowed := true, recurses := true, named := ["internal/bytealg.MaxLen"], apart := false, narrowed := true }
def PhylotreeEqualUptoSaid : Prop := phylotreeEqualUptoRow.holds Try.pinned (OpenSpec.upto phylotreeEqualSpec)

/-- 'apographlaw31.PhylotreeRerooted', WHERE WHAT IT READS IS OF BULK AT MOST 1048576: true; the input reads as it did. -/
def phylotreeRerootedUptoRow : OpenClaim := { program := "ytcaialhoclodjaa", sum := "4ef2d4b287852834580159b1ed14456219d4ab30e9ece310f5486340f0c59416", func := "apograph/apographlaw31.PhylotreeRerooted", spec := "phylotreeRerooted", inPlace := ["internal/bytealg.IndexByteString", "internal/bytealg.IndexString", "internal/bytealg.abigen_runtime_cmpstring", "internal/abi.NoEscape"], unfollowed := true, recurses := true, named := ["internal/bytealg.MaxLen"], apart := false, narrowed := true }
def PhylotreeRerootedUptoSaid : Prop := phylotreeRerootedUptoRow.holds Try.pinned (OpenSpec.upto phylotreeRerootedSpec)

/-- 'apographlaw31.PhylotreeCanonical', WHERE WHAT IT READS IS OF BULK AT MOST 1048576: true; the input reads as it did. -/
def phylotreeCanonicalUptoRow : OpenClaim := { program := "ytcaialhoclodjaa", sum := "4ef2d4b287852834580159b1ed14456219d4ab30e9ece310f5486340f0c59416", func := "apograph/apographlaw31.PhylotreeCanonical", spec := "phylotreeCanonical", inPlace := ["internal/bytealg.IndexByteString", "internal/bytealg.IndexString", "internal/bytealg.abigen_runtime_cmpstring", "internal/abi.NoEscape"], unfollowed := true, recurses := true, named := ["internal/bytealg.MaxLen"], apart := false, narrowed := true }
def PhylotreeCanonicalUptoSaid : Prop := phylotreeCanonicalUptoRow.holds Try.pinned (OpenSpec.upto phylotreeCanonicalSpec)

end Rows
end Go.Proofs.Ytcaialhoclodjaa
