/- Plain: the least numbers, the table. -/
import Derived.Test.YtflikmllpimaiaaS3
namespace Go.Proofs.Ytflikmllpimaiaa
/-- The least sum c s + row s of the first k states whose number is not -1, and the first state that has it. -/
def bestK (c row : Nat → Int) : Nat → Int × Int
  | 0 => (-1, 0)
  | k + 1 => if row k < 0 then bestK c row k else if (bestK c row k).1 < 0 ∨ c k + row k < (bestK c row k).1 then (c k + row k, (k : Int)) else bestK c row k
theorem bestK_succ (c row : Nat → Int) (k : Nat) : bestK c row (k + 1) = if row k < 0 then bestK c row k else if (bestK c row k).1 < 0 ∨ c k + row k < (bestK c row k).1 then (c k + row k, (k : Int)) else bestK c row k := rfl
theorem bestK_bd {c row : Nat → Int} {A : Int} (hA : 0 ≤ A) (hc : ∀ k, 0 ≤ c k ∧ c k ≤ 1000) (hr : ∀ k, row k ≤ A) (k : Nat) : -1 ≤ (bestK c row k).1 ∧ (bestK c row k).1 ≤ A + 1000 := by
  induction k with
  | zero => simp [bestK]; omega
  | succ k ih =>
    rw [bestK_succ]
    have := hc k; have := hr k
    split
    · exact ih
    · split
      · simp; omega
      · exact ih
end Go.Proofs.Ytflikmllpimaiaa
