/- Plain: the cost of an assignment. -/
import Derived.Test.YtflikmllpimaiaaS9
namespace Go.Proofs.Ytflikmllpimaiaa
def edgeC (cs : List (List Int)) (all : List Int) (node child : Nat) : Int := costF cs (gi all node).toNat (gi all child).toNat
def nodeC (t : Tre) (cs : List (List Int)) (all : List Int) (node : Nat) : Int := ((kidsL t.ps node).map (edgeC cs all node)).sum
def costK (t : Tre) (cs : List (List Int)) (all : List Int) (k : Nat) : Int := sumN (nodeC t cs all) k
def costL (t : Tre) (cs : List (List Int)) (all : List Int) : Int := costK t cs all t.ps.length
/-- All states of the assignment are numbers of states. -/
def AllOk (n m : Nat) (all : List Int) : Prop := all.length = n ∧ ∀ k, k < n → 0 ≤ gi all k ∧ gi all k < m
theorem edgeC_bd {cs : List (List Int)} (hcb : ∀ a k, 0 ≤ gi (gl cs a) k ∧ gi (gl cs a) k ≤ 1000) (all : List Int) (a b : Nat) : 0 ≤ edgeC cs all a b ∧ edgeC cs all a b ≤ 1000 := hcb _ _
theorem nodeC_bd {t : Tre} {cs : List (List Int)} (hcb : ∀ a k, 0 ≤ gi (gl cs a) k ∧ gi (gl cs a) k ≤ 1000) (hn : t.ps.length ≤ 64) (all : List Int) (a : Nat) : 0 ≤ nodeC t cs all a ∧ nodeC t cs all a ≤ 64000 := by
  have h : ∀ l : List Nat, 0 ≤ (l.map (edgeC cs all a)).sum ∧ (l.map (edgeC cs all a)).sum ≤ 1000 * (l.length : Int) := fun l => by
    induction l with
    | nil => simp
    | cons c l ih =>
      have := edgeC_bd hcb all a c
      simp only [List.map_cons, List.sum_cons, List.length_cons]
      have e : (1000 : Int) * ((l.length + 1 : Nat) : Int) = 1000 * (l.length : Int) + 1000 := by omega
      rw [e]; omega
  have h1 := h (kidsL t.ps a)
  have h2 := kidsK_len t.ps a t.ps.length
  unfold nodeC
  unfold kidsL at h1 ⊢
  omega
theorem costK_bd {t : Tre} {cs : List (List Int)} (hcb : ∀ a k, 0 ≤ gi (gl cs a) k ∧ gi (gl cs a) k ≤ 1000) (hn : t.ps.length ≤ 64) (all : List Int) : ∀ k, 0 ≤ costK t cs all k ∧ costK t cs all k ≤ 64000 * (k : Int)
  | 0 => by simp [costK, sumN]
  | k + 1 => by
    have h1 := costK_bd hcb hn all k
    have h2 := nodeC_bd hcb hn all k
    unfold costK at *
    rw [sumN_succ]
    have e : (64000 : Int) * ((k + 1 : Nat) : Int) = 64000 * (k : Int) + 64000 := by omega
    rw [e]; omega
end Go.Proofs.Ytflikmllpimaiaa
