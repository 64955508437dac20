/- Plain: the children of a node. -/
import Derived.Test.YtflikmllpimaiaaS1
namespace Go.Proofs.Ytflikmllpimaiaa
def kidsK (ps : List Int) (n k : Nat) : List Nat := (List.range k).filter fun i => decide (n < i) && gi ps i == (n : Int)
def kidsL (ps : List Int) (n : Nat) : List Nat := kidsK ps n ps.length
def ofNats (l : List Nat) : List Int := l.map fun (i : Nat) => (i : Int)
theorem kidsK_succ (ps : List Int) (n k : Nat) : kidsK ps n (k + 1) = kidsK ps n k ++ (if n < k ∧ gi ps k = n then [k] else []) := by
  unfold kidsK
  rw [List.range_succ, List.filter_append]
  congr 1
  by_cases h : n < k ∧ gi ps k = n
  · rw [if_pos h]; simp [h.1, h.2]
  · rw [if_neg h]
    have : (decide (n < k) && gi ps k == (n : Int)) = false := by
      rw [Bool.eq_false_iff]; intro e; apply h; simpa using e
    simp [this]
theorem kidsK_start (ps : List Int) (n : Nat) : kidsK ps n (n + 1) = [] := by
  unfold kidsK
  rw [List.filter_eq_nil_iff]; intro a ha; have := List.mem_range.1 ha; simp; omega
theorem kidsK_len (ps : List Int) (n k : Nat) : (kidsK ps n k).length ≤ k := by
  unfold kidsK; exact Nat.le_trans (List.length_filter_le _ _) (by simp)
theorem mem_kidsL {ps : List Int} {n i : Nat} : i ∈ kidsL ps n ↔ i < ps.length ∧ n < i ∧ gi ps i = n := by
  unfold kidsL kidsK; rw [List.mem_filter, List.mem_range]; simp
theorem ofNats_append (a b : List Nat) : ofNats (a ++ b) = ofNats a ++ ofNats b := List.map_append
/-- In a tree a node has children if and only if some node has it as its parent. -/
theorem kids_isIn {ps : List Int} (h : pOkB ps = true) (n : Nat) : kidsL ps n ≠ [] ↔ isIn ps n = true := by
  constructor
  · intro hne
    obtain ⟨i, hi⟩ := List.exists_mem_of_ne_nil _ hne
    obtain ⟨h1, h2, h3⟩ := mem_kidsL.1 hi
    exact List.any_eq_true.2 ⟨i, List.mem_range.2 h1, by simp [h3]; omega⟩
  · intro hin
    obtain ⟨i, hi, h2⟩ := List.any_eq_true.1 hin
    have hi := List.mem_range.1 hi
    simp at h2
    have := pOkB_at h hi
    unfold okp at this
    rw [if_neg (by omega)] at this
    simp at this
    exact List.ne_nil_of_mem (mem_kidsL.2 ⟨hi, by omega, h2.2⟩)
end Go.Proofs.Ytflikmllpimaiaa
