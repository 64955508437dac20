/- Plain: an assignment of numbers, made to fit. -/
import Derived.Test.YtflikmllpimaiaaS12
namespace Go.Proofs.Ytflikmllpimaiaa
def picked (pk : List Int) (m n : Nat) : List Int := (List.range n).map fun i => gi pk i % (m : Int)
theorem picked_len (pk : List Int) (m n : Nat) : (picked pk m n).length = n := by simp [picked]
theorem picked_succ (pk : List Int) (m n : Nat) : picked pk m (n + 1) = picked pk m n ++ [gi pk n % (m : Int)] := by simp [picked, List.range_succ]
theorem gi_picked (pk : List Int) (m : Nat) {n k : Nat} (h : k < n) : gi (picked pk m n) k = gi pk k % (m : Int) := by simp [gi, picked, h]
def fitK (ns : List ByteArray) (st all : List Int) : Nat → List Int
  | 0 => all
  | j + 1 => if 0 ≤ gi st j then (fitK ns st all j).set (gi (leavesL ns) j).toNat (gi st j) else fitK ns st all j
theorem fitK_len (ns : List ByteArray) (st all : List Int) : ∀ j, (fitK ns st all j).length = all.length
  | 0 => rfl
  | j + 1 => by
    unfold fitK; split
    · rw [List.length_set, fitK_len ns st all j]
    · exact fitK_len ns st all j
theorem fitK_fits {ns : List ByteArray} {st all : List Int} (hal : all.length = ns.length) : ∀ {j i : Nat}, j ≤ (leavesL ns).length → i < j → 0 ≤ gi st i → gi (fitK ns st all j) (gi (leavesL ns) i).toNat = gi st i
  | 0, i, _, h, _ => by omega
  | j + 1, i, hj, h, h0 => by
    obtain ⟨q, hq, hqn, _⟩ := leaf_nat (ns := ns) (i := j) (by omega)
    obtain ⟨p, hp, hpn, _⟩ := leaf_nat (ns := ns) (i := i) (by omega)
    unfold fitK
    by_cases e : i = j
    · subst e
      rw [if_pos h0, gi_set, if_pos ⟨by rw [fitK_len, hal, hq, Int.toNat_natCast]; exact hqn, rfl⟩]
    · have hlt := leaves_lt ns (i := i) (j := j) (by omega) (by omega)
      have ih := fitK_fits (st := st) hal (j := j) (i := i) (by omega) (by omega) h0
      split
      · rw [gi_set, if_neg (by rw [hp, hq] at *; simp only [Int.toNat_natCast]; omega)]; exact ih
      · exact ih
theorem fitK_ok {ns : List ByteArray} {st all : List Int} {n m : Nat} (h : AllOk n m all) (hs : ∀ j, j < (leavesL ns).length → 0 ≤ gi st j → gi st j < m) : ∀ {j : Nat}, j ≤ (leavesL ns).length → AllOk n m (fitK ns st all j)
  | 0, _ => h
  | j + 1, hj => by
    have ih := fitK_ok h hs (j := j) (by omega)
    unfold fitK
    split
    · rename_i h0
      refine ⟨by rw [List.length_set]; exact ih.1, fun k hk => ?_⟩
      rw [gi_set]
      split
      · exact ⟨h0, hs j (by omega) h0⟩
      · exact ih.2 k hk
    · exact ih
theorem valid_state {t : Tre} {st : List Int} {cs : List (List Int)} (h : Valid t st cs) {j : Nat} (hj : j < (leavesL t.ns).length) : -1 ≤ gi st j ∧ gi st j < cs.length := by
  have := any_false h.good (k := j) (by rw [h.len]; exact hj)
  simp at this; omega
/-- The numbers, made to fit: an assignment that costs no less than the score. -/
theorem fit_le {t : Tre} {st : List Int} {cs : List (List Int)} (h : Valid t st cs) (pk : List Int) :
    AllOk t.ps.length cs.length (fitK t.ns st (picked pk cs.length t.ps.length) (leavesL t.ns).length) ∧ scoreN t st cs ≤ costL t cs (fitK t.ns st (picked pk cs.length t.ps.length) (leavesL t.ns).length) := by
  have hm := (matErr_zero h.mat).1
  have hnl := (treeErr_zero h.tree).2.2.1
  have h0 : AllOk t.ps.length cs.length (picked pk cs.length t.ps.length) := ⟨picked_len _ _ _, fun k hk => by
    rw [gi_picked _ _ hk]; exact ⟨Int.emod_nonneg _ (by omega), Int.emod_lt_of_pos _ (by omega)⟩⟩
  have h1 := fitK_ok (ns := t.ns) (st := st) h0 (fun j hj _ => (valid_state h hj).2) (Nat.le_refl _)
  exact ⟨h1, score_le h h1 fun i hi hi0 => fitK_fits (by rw [picked_len, hnl]) (Nat.le_refl _) hi hi0⟩
end Go.Proofs.Ytflikmllpimaiaa
