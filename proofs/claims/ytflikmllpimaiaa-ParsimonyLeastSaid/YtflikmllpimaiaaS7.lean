/- Plain: the rows of the table of a tree, its leaves' states and costs. -/
import Derived.Test.YtflikmllpimaiaaS6
namespace Go.Proofs.Ytflikmllpimaiaa
def leafIx (ns : List ByteArray) (i : Nat) : Int := firstIx (fun j => decide ((i : Int) = gi (leavesL ns) j)) (leavesL ns).length
def ownS (ns : List ByteArray) (st : List Int) (i : Nat) : Int := if 0 ≤ leafIx ns i then gi st (leafIx ns i).toNat else -1
def costF (cs : List (List Int)) (a b : Nat) : Int := gi (gl cs a) b
def tabT (t : Tre) (st : List Int) (cs : List (List Int)) (i s : Nat) : Int := tab t.ps.length cs.length (gi t.ps) (ownS t.ns st) (costF cs) i s
def tabRow (t : Tre) (st : List Int) (cs : List (List Int)) (i : Nat) : List Int := (List.range cs.length).map (tabT t st cs i)
theorem tabRow_len (t : Tre) (st : List Int) (cs : List (List Int)) (i : Nat) : (tabRow t st cs i).length = cs.length := by simp [tabRow]
theorem gi_tabRow (t : Tre) (st : List Int) (cs : List (List Int)) (i : Nat) {s : Nat} (hs : s < cs.length) : gi (tabRow t st cs i) s = tabT t st cs i s := by
  simp [gi, tabRow, hs]
/-- What a child adds to its parent's number. -/
def addK (t : Tre) (st : List Int) (cs : List (List Int)) (s c : Nat) : Int := (bestK (gi (gl cs s)) (gi (tabRow t st cs c)) (tabRow t st cs c).length).1
theorem addK_eq (t : Tre) (st : List Int) (cs : List (List Int)) (s c : Nat) : addK t st cs s c = (bestK (costF cs s) (tabT t st cs c) cs.length).1 := by
  unfold addK; rw [tabRow_len]
  have h : bestK (gi (gl cs s)) (gi (tabRow t st cs c)) cs.length = bestK (costF cs s) (tabT t st cs c) cs.length := bestK_congr (fun _ _ => rfl) fun j hj => gi_tabRow t st cs c hj
  rw [h]
def baseT (t : Tre) (st : List Int) (i s : Nat) : Int := if 0 ≤ ownS t.ns st i ∧ ownS t.ns st i ≠ s then -1 else 0
theorem tabT_eq (t : Tre) (st : List Int) (cs : List (List Int)) {i : Nat} (hi : i < t.ps.length) (s : Nat) : tabT t st cs i s = baseT t st i s + ((kidsL t.ps i).map (addK t st cs s)).sum := by
  unfold tabT; rw [tab_eq hi]; unfold rowF kidsL
  rw [kidsK_sum]
  show baseT t st i s + _ = _
  congr 1
  exact sumN_congr fun c _ => by
    split
    · exact (addK_eq t st cs s c).symm
    · rfl
end Go.Proofs.Ytflikmllpimaiaa
