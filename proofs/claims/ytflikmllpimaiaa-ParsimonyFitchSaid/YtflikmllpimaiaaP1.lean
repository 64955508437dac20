/- Plain: the table as the reference makes it, in place. -/
import Derived.Test.YtflikmllpimaiaaS
namespace Go.Proofs.Ytflikmllpimaiaa
/-- Row r, when the nodes from k on have been added to their parents. -/
def part (t : Tre) (st : List Int) (cs : List (List Int)) (k r s : Nat) : Int := baseT t st r s + sumN (fun c => if k ≤ c ∧ r < c ∧ gi t.ps c = r then addK t st cs s c else 0) t.ps.length
section
variable {t : Tre} {st : List Int} {cs : List (List Int)}
theorem addK_nonneg (h : Valid t st cs) {s c : Nat} (hs : s < cs.length) (hc : c < t.ps.length) : 0 ≤ addK t st cs s c := by
  rw [addK_eq]; exact kid_best h.fine hs hc
theorem tabT_sum (_ : Valid t st cs) {r : Nat} (hr : r < t.ps.length) (s : Nat) : tabT t st cs r s = baseT t st r s + sumN (fun c => if r < c ∧ gi t.ps c = r then addK t st cs s c else 0) t.ps.length := by
  rw [tabT_eq t st cs hr, ← kidsK_sum]; rfl
theorem part_end (k r s : Nat) (hk : t.ps.length ≤ k) : part t st cs k r s = baseT t st r s := by
  unfold part
  rw [(sumN_congr (g := fun _ => 0) fun c hc => by rw [if_neg (by omega)]).trans (sumN_zero _), Int.add_zero]
theorem part_tab (h : Valid t st cs) {k r : Nat} (hr : r < t.ps.length) (hk : k ≤ r + 1) (s : Nat) : part t st cs k r s = tabT t st cs r s := by
  rw [tabT_sum h hr]; unfold part
  congr 1
  refine sumN_congr fun c _ => ?_
  by_cases e : r < c ∧ gi t.ps c = r
  · rw [if_pos ⟨by omega, e⟩, if_pos e]
  · rw [if_neg (fun h => e h.2), if_neg e]
theorem part_same {k r : Nat} (hr : gi t.ps k ≠ r) (s : Nat) : part t st cs k r s = part t st cs (k + 1) r s := by
  unfold part
  congr 1
  refine sumN_congr fun c _ => ?_
  by_cases e : c = k
  · subst e; rw [if_neg (fun h => hr h.2.2), if_neg (by omega)]
  · by_cases h2 : k ≤ c ∧ r < c ∧ gi t.ps c = r
    · rw [if_pos h2, if_pos ⟨by omega, h2.2⟩]
    · rw [if_neg h2, if_neg (fun h => h2 ⟨by omega, h.2⟩)]
theorem part_step {k r : Nat} (hk : k < t.ps.length) (hr : gi t.ps k = r) (hrk : r < k) (s : Nat) : part t st cs k r s = part t st cs (k + 1) r s + addK t st cs s k := by
  unfold part
  rw [Int.add_assoc]
  congr 1
  have h1 : sumN (fun c => if c = k then addK t st cs s k else 0) t.ps.length = addK t st cs s k := by rw [sumN_one, if_pos hk]
  conv => rhs; rw [← h1]
  rw [← sumN_add]
  refine sumN_congr fun c _ => ?_
  by_cases e : c = k
  · subst e; rw [if_pos ⟨Nat.le_refl _, hrk, hr⟩, if_neg (by omega), if_pos rfl]; omega
  · by_cases h2 : k ≤ c ∧ r < c ∧ gi t.ps c = r
    · rw [if_pos h2, if_pos ⟨by omega, h2.2⟩, if_neg e]; omega
    · rw [if_neg h2, if_neg (fun h => h2 ⟨by omega, h.2⟩), if_neg e]; rfl
theorem baseT_bd (t : Tre) (st : List Int) (r s : Nat) : -1 ≤ baseT t st r s ∧ baseT t st r s ≤ 0 := by unfold baseT; split <;> omega
theorem part_bd (h : Valid t st cs) {k r s : Nat} (hr : r < t.ps.length) (hs : s < cs.length) : -1 ≤ part t st cs k r s ∧ part t st cs k r s ≤ 100000 := by
  have h1 := baseT_bd t st r s
  have h2 := sumN_nonneg (f := fun c => if k ≤ c ∧ r < c ∧ gi t.ps c = r then addK t st cs s c else 0) (n := t.ps.length) (fun c hc => by
    split
    · exact addK_nonneg h hs hc
    · exact Int.le_refl _)
  have h3 := sumN_mono (f := fun c => if k ≤ c ∧ r < c ∧ gi t.ps c = r then addK t st cs s c else 0) (g := fun c => if r < c ∧ gi t.ps c = r then addK t st cs s c else 0) (n := t.ps.length) (fun c hc => by
    show (if k ≤ c ∧ r < c ∧ gi t.ps c = r then _ else (0 : Int)) ≤ (if r < c ∧ gi t.ps c = r then _ else 0)
    by_cases e : r < c ∧ gi t.ps c = r
    · rw [if_pos e]
      split
      · exact Int.le_refl _
      · exact addK_nonneg h hs hc
    · rw [if_neg e, if_neg (fun h => e h.2)]; exact Int.le_refl _)
  have h4 := tabT_sum h hr s
  have h5 := (h.tb r s hr).2
  rw [gi_tabRow _ _ _ _ hs] at h5
  unfold part
  omega
/-- The number of the state s in the row i, when the first j leaves have been looked at. -/
def leafJ (t : Tre) (st : List Int) (j i s : Nat) : Int := if leafIx t.ns i < j then baseT t st i s else 0
def leafJS (t : Tre) (st : List Int) (j s i s' : Nat) : Int := if leafIx t.ns i = j then (if s' < s then baseT t st i s' else 0) else leafJ t st j i s'
theorem leafIx_bd (ns : List ByteArray) (i : Nat) : -1 ≤ leafIx ns i ∧ leafIx ns i < (leavesL ns).length := by
  have := firstIx_lo (fun j => decide ((i : Int) = gi (leavesL ns) j)) (leavesL ns).length
  unfold leafIx; omega
theorem baseT_none {t : Tre} {st : List Int} {i : Nat} (h : leafIx t.ns i < 0) (s : Nat) : baseT t st i s = 0 := by
  unfold baseT ownS
  rw [if_neg (show ¬ 0 ≤ leafIx t.ns i by omega), if_neg (by omega)]
theorem leafJ_zero (t : Tre) (st : List Int) (i s : Nat) : leafJ t st 0 i s = 0 := by
  unfold leafJ
  split
  · exact baseT_none (by omega) s
  · rfl
theorem leafJ_all (t : Tre) (st : List Int) (i s : Nat) : leafJ t st (leavesL t.ns).length i s = baseT t st i s := by
  unfold leafJ; rw [if_pos (leafIx_bd t.ns i).2]
theorem leafJS_zero (t : Tre) (st : List Int) (j i s' : Nat) : leafJS t st j 0 i s' = leafJ t st j i s' := by
  unfold leafJS leafJ
  split
  · rw [if_neg (by omega), if_neg (by omega)]
  · rfl
theorem leafJS_end {t : Tre} {st : List Int} {j m i s' : Nat} (hs : s' < m) : leafJS t st j m i s' = leafJ t st (j + 1) i s' := by
  unfold leafJS leafJ
  by_cases e : leafIx t.ns i = j
  · rw [if_pos e, if_pos hs, if_pos (by omega)]
  · rw [if_neg e]
    by_cases h : leafIx t.ns i < j
    · rw [if_pos h, if_pos (by omega)]
    · rw [if_neg h, if_neg (by omega)]
/-- Row par j is being added to. -/
def partS (t : Tre) (st : List Int) (cs : List (List Int)) (j s r c : Nat) : Int := if gi t.ps j = r ∧ c < s then part t st cs j r c else part t st cs (j + 1) r c
theorem partS_zero (j r c : Nat) : partS t st cs j 0 r c = part t st cs (j + 1) r c := by unfold partS; rw [if_neg (by omega)]
theorem partS_end {j m r c : Nat} (hc : c < m) : partS t st cs j m r c = part t st cs j r c := by
  unfold partS
  by_cases e : gi t.ps j = r
  · rw [if_pos ⟨e, hc⟩]
  · rw [if_neg (fun h => e h.1), part_same e]
end
end Go.Proofs.Ytflikmllpimaiaa
