/- Plain: the first best assignment. -/
import Derived.Test.YtflikmllpimaiaaS8
namespace Go.Proofs.Ytflikmllpimaiaa
/-- The state of node k, when those of the nodes before it are the list l. -/
def asgAt (t : Tre) (st : List Int) (cs : List (List Int)) (l : List Int) (k : Nat) : Int :=
  (bestK (if k = 0 then fun _ => 0 else gi (gl cs (gi l (gi t.ps k).toNat).toNat)) (gi (tabRow t st cs k)) cs.length).2
def asgK (t : Tre) (st : List Int) (cs : List (List Int)) : Nat → List Int
  | 0 => []
  | k + 1 => asgK t st cs k ++ [asgAt t st cs (asgK t st cs k) k]
def asgL (t : Tre) (st : List Int) (cs : List (List Int)) : List Int := asgK t st cs t.ps.length
theorem asgK_len (t : Tre) (st : List Int) (cs : List (List Int)) : ∀ k, (asgK t st cs k).length = k
  | 0 => rfl
  | k + 1 => by rw [asgK, List.length_append, asgK_len t st cs k]; rfl
theorem gi_append (l : List Int) (x : Int) (j : Nat) : gi (l ++ [x]) j = if j < l.length then gi l j else if j = l.length then x else 0 := by
  unfold gi
  by_cases h : j < l.length
  · rw [if_pos h]; simp [List.getElem?_append, h]
  · rw [if_neg h]
    by_cases e : j = l.length
    · rw [if_pos e]; simp [e]
    · rw [if_neg e]; simp; rw [List.getElem?_eq_none (by simp; omega)]; rfl
theorem gi_asgK_old (t : Tre) (st : List Int) (cs : List (List Int)) {k j : Nat} (h : j < k) : gi (asgK t st cs (k + 1)) j = gi (asgK t st cs k) j := by
  rw [asgK, gi_append, asgK_len, if_pos h]
theorem gi_asgK_new (t : Tre) (st : List Int) (cs : List (List Int)) (k : Nat) : gi (asgK t st cs (k + 1)) k = asgAt t st cs (asgK t st cs k) k := by
  rw [asgK, gi_append, asgK_len, if_neg (by omega), if_pos rfl]
theorem gi_asgK_le (t : Tre) (st : List Int) (cs : List (List Int)) {j : Nat} : ∀ {k n : Nat}, j < k → k ≤ n → gi (asgK t st cs n) j = gi (asgK t st cs k) j
  | k, 0, h, h2 => by omega
  | k, n + 1, h, h2 => by
    by_cases e : k = n + 1
    · rw [e]
    · rw [gi_asgK_old t st cs (by omega), gi_asgK_le t st cs h (by omega)]
theorem gi_asgL (t : Tre) (st : List Int) (cs : List (List Int)) {j : Nat} (h : j < t.ps.length) : gi (asgL t st cs) j = asgAt t st cs (asgL t st cs) j ∨ ∃ l, asgAt t st cs l j = gi (asgL t st cs) j ∧ l = asgK t st cs j := by
  right; refine ⟨_, ?_, rfl⟩
  unfold asgL; rw [gi_asgK_le t st cs (Nat.lt_succ_self j) (by omega), gi_asgK_new]
section
variable {t : Tre} {st : List Int} {cs : List (List Int)}
theorem best_ok (hv : Valid t st cs) {c : Nat → Int} (hc : ∀ j, j < cs.length → 0 ≤ c j ∧ c j ≤ 1000) {k : Nat} (hk : k < t.ps.length) :
    ∃ o : Nat, (bestK c (gi (tabRow t st cs k)) cs.length).2 = o ∧ o < cs.length ∧ 0 ≤ gi (tabRow t st cs k) o ∧ (bestK c (gi (tabRow t st cs k)) cs.length).1 = c o + gi (tabRow t st cs k) o ∧
      (∀ j, j < cs.length → 0 ≤ gi (tabRow t st cs k) j → (bestK c (gi (tabRow t st cs k)) cs.length).1 ≤ c j + gi (tabRow t st cs k) j) ∧
      (∀ j, j < o → 0 ≤ gi (tabRow t st cs k) j → (bestK c (gi (tabRow t st cs k)) cs.length).1 < c j + gi (tabRow t st cs k) j) := by
  obtain ⟨_, ⟨s, hs, hs0⟩, _⟩ := tab_bd hv.fine (d := t.ps.length) (i := k) (by omega) hk
  have hs1 : 0 ≤ gi (tabRow t st cs k) s := by rw [gi_tabRow _ _ _ _ hs]; exact hs0
  rcases bestK_spec (c := c) (row := gi (tabRow t st cs k)) (A := 100000) (by omega) (k := cs.length) hc (fun j _ => (hv.tb k j hk).2) with ⟨_, h⟩ | h
  · have := h s hs; omega
  · exact h
theorem costF_bd (hv : Valid t st cs) (a : Nat) : ∀ j, j < cs.length → 0 ≤ gi (gl cs a) j ∧ gi (gl cs a) j ≤ 1000 := fun j _ => (matErr_zero hv.mat).2.2.2.1 a j
theorem asgAt_ok (hv : Valid t st cs) (l : List Int) {k : Nat} (hk : k < t.ps.length) : ∃ o : Nat, asgAt t st cs l k = o ∧ o < cs.length ∧ 0 ≤ gi (tabRow t st cs k) o := by
  unfold asgAt
  obtain ⟨o, h1, h2, h3, _⟩ := best_ok hv (c := if k = 0 then fun _ => 0 else gi (gl cs (gi l (gi t.ps k).toNat).toNat)) (fun j hj => by
    by_cases e : k = 0
    · simp [e]
    · simp only [e, if_false]; exact costF_bd hv _ j hj) hk
  exact ⟨o, h1, h2, h3⟩
theorem asgK_ok (hv : Valid t st cs) : ∀ {k j : Nat}, k ≤ t.ps.length → j < k → ∃ o : Nat, gi (asgK t st cs k) j = o ∧ o < cs.length
  | 0, j, _, h => by omega
  | k + 1, j, hk, h => by
    by_cases e : j = k
    · subst e; rw [gi_asgK_new]
      obtain ⟨o, h1, h2, _⟩ := asgAt_ok hv (asgK t st cs j) (k := j) (by omega)
      exact ⟨o, h1, h2⟩
    · rw [gi_asgK_old _ _ _ (by omega)]; exact asgK_ok hv (by omega) (by omega)
end
end Go.Proofs.Ytflikmllpimaiaa
