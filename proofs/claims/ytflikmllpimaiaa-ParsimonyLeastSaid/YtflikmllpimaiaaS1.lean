/- Plain: the leaves of a tree, in order. -/
import Derived.Test.YtflikmllpimaiaaS0
namespace Go.Proofs.Ytflikmllpimaiaa
def leavesK (ns : List ByteArray) (k : Nat) : List Int := ((List.range k).filter fun i => (gs ns i).size ≠ 0).map fun (i : Nat) => (i : Int)
theorem leavesK_succ (ns : List ByteArray) (k : Nat) : leavesK ns (k + 1) = leavesK ns k ++ (if (gs ns k).size = 0 then [] else [(k : Int)]) := by
  unfold leavesK
  rw [List.range_succ, List.filter_append, List.map_append]
  congr 1
  by_cases h : (gs ns k).size = 0
  · have h2 : decide ((gs ns k).size ≠ 0) = false := by rw [decide_eq_false_iff_not]; exact fun e => e h
    rw [if_pos h]; simp only [List.filter_cons, h2, List.filter_nil]; rfl
  · have h2 : decide ((gs ns k).size ≠ 0) = true := by rw [decide_eq_true_eq]; exact h
    rw [if_neg h]; simp only [List.filter_cons, h2, List.filter_nil]; rfl
theorem leavesK_len (ns : List ByteArray) (k : Nat) : (leavesK ns k).length ≤ k := by
  unfold leavesK; rw [List.length_map]; exact Nat.le_trans (List.length_filter_le _ _) (by simp)
end Go.Proofs.Ytflikmllpimaiaa
