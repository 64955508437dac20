/- Plain: costs and states. -/
import Derived.Test.YtflikmllpimaiaaS2
namespace Go.Proofs.Ytflikmllpimaiaa
def stBad (st : List Int) (least most : Int) : Bool := (List.range st.length).any fun k => decide (gi st k < least) || decide (most ≤ gi st k)
def knownErr (st : List Int) (n : Nat) (least most : Int) : Int := if st.length ≠ n then 9 else if stBad st least most then 2 else 0
def badc (a b : Nat) (c : Int) : Bool := decide (c < 0) || decide (1000 < c) || (decide (a = b) && decide (c ≠ 0))
def rowBad (a : Nat) (row : List Int) (k : Nat) : Bool := (List.range k).any fun b => badc a b (gi row b)
def matBadK (cs : List (List Int)) (k : Nat) : Bool := (List.range k).any fun a => rowBad a (gl cs a) (gl cs a).length
def lenBad (cs : List (List Int)) : Bool := (List.range cs.length).any fun a => decide ((gl cs a).length ≠ cs.length)
def matErr (cs : List (List Int)) : Int := if cs.length = 0 then 5 else if 16 < cs.length then 4 else if lenBad cs then 9 else if matBadK cs cs.length then 2 else 0
theorem any_succ (p : Nat → Bool) (n : Nat) : (List.range (n + 1)).any p = ((List.range n).any p || p n) := by simp [List.range_succ]
theorem any_none {p : Nat → Bool} {n : Nat} (h : ∀ j, j < n → p j = false) : (List.range n).any p = false := by
  rw [Bool.eq_false_iff]; intro e
  obtain ⟨j, hj, hp⟩ := List.any_eq_true.1 e
  rw [h j (List.mem_range.1 hj)] at hp; cases hp
theorem any_at {p : Nat → Bool} {n k : Nat} (hk : k < n) (hp : p k = true) : (List.range n).any p = true := List.any_eq_true.2 ⟨k, List.mem_range.2 hk, hp⟩
theorem any_false {p : Nat → Bool} {n : Nat} (h : (List.range n).any p = false) {k : Nat} (hk : k < n) : p k = false := by
  cases e : p k with
  | false => rfl
  | true => rw [any_at hk e] at h; cases h
/-- The first error of a tree, states and costs. -/
def parErr (t : Tre) (st : List Int) (cs : List (List Int)) : Int :=
  if treeErr t ≠ 0 then 1 else if matErr cs ≠ 0 then matErr cs else knownErr st (leavesL t.ns).length (-1) cs.length
end Go.Proofs.Ytflikmllpimaiaa
