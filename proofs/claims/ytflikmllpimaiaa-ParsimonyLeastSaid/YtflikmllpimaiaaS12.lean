/- Plain laws of the score. -/
import Derived.Test.YtflikmllpimaiaaS11
namespace Go.Proofs.Ytflikmllpimaiaa
theorem leaves_lt (ns : List ByteArray) {i j : Nat} (hj : j < (leavesL ns).length) (hij : i < j) : gi (leavesL ns) i < gi (leavesL ns) j := by
  have hp : (leavesL ns).Pairwise (· < ·) := by
    unfold leavesL
    rw [List.pairwise_map]
    refine (List.Pairwise.filter _ List.pairwise_lt_range).imp ?_
    intro a b h; omega
  have h := List.pairwise_iff_getElem.1 hp i j (by omega) hj hij
  have hi : i < (leavesL ns).length := by omega
  simpa [gi, hi, hj] using h
theorem leafIx_of {ns : List ByteArray} {i k : Nat} (hi : i < (leavesL ns).length) (hk : gi (leavesL ns) i = k) : leafIx ns k = i := by
  unfold leafIx
  refine firstIx_at hi (fun j hj => ?_) (by simp [hk])
  have := leaves_lt ns hi hj
  simp; omega
theorem ownS_of {ns : List ByteArray} {st : List Int} {i k : Nat} (hi : i < (leavesL ns).length) (hk : gi (leavesL ns) i = k) : ownS ns st k = gi st i := by
  unfold ownS; rw [leafIx_of hi hk, if_pos (by omega), Int.toNat_natCast]
theorem leaf_nat {ns : List ByteArray} {i : Nat} (hi : i < (leavesL ns).length) : ∃ k : Nat, gi (leavesL ns) i = k ∧ k < ns.length ∧ (gs ns k).size ≠ 0 := by
  obtain ⟨k, e, h1, h2⟩ := mem_leavesL.1 (gi_mem hi)
  exact ⟨k, e, h1, h2⟩
theorem gi_set (l : List Int) (j : Nat) (x : Int) (k : Nat) : gi (l.set j x) k = if j < l.length ∧ k = j then x else gi l k := by
  unfold gi
  simp only [List.getD_eq_getElem?_getD, List.getElem?_set]
  by_cases h : j = k
  · subst h
    by_cases hj : j < l.length
    · simp [hj]
    · simp [hj]
  · have h2 : ¬ k = j := fun e => h e.symm
    simp [h, h2]
section
variable {t : Tre} {st : List Int} {cs : List (List Int)}
theorem Valid.set (h : Valid t st cs) (j : Nat) : Valid t (st.set j (-1)) cs := by
  refine ⟨h.tree, h.mat, by rw [List.length_set]; exact h.len, any_none fun k hk => ?_⟩
  rw [List.length_set] at hk
  have h1 := any_false h.good hk
  rw [gi_set]
  split
  · have := (matErr_zero h.mat).1; simp; omega
  · exact h1
theorem ownS_set (ns : List ByteArray) (st : List Int) (j i : Nat) : ownS ns (st.set j (-1)) i = ownS ns st i ∨ ownS ns (st.set j (-1)) i = -1 := by
  unfold ownS
  split
  · rw [gi_set]; split
    · exact .inr rfl
    · exact .inl rfl
  · exact .inr rfl
theorem scoreN_eq (h : Valid t st cs) : scoreN t st cs = (bestK (fun _ => 0) (gi (tabRow t st cs 0)) cs.length).1 := by unfold scoreN; rw [if_pos h.par]
theorem score_ok (h : Valid t st cs) : ∃ o : Nat, (bestK (fun _ => 0) (gi (tabRow t st cs 0)) cs.length).2 = o ∧ o < cs.length ∧ 0 ≤ tabT t st cs 0 o ∧ scoreN t st cs = tabT t st cs 0 o ∧
    ∀ j, j < cs.length → 0 ≤ tabT t st cs 0 j → scoreN t st cs ≤ tabT t st cs 0 j := by
  have hp0 := (treeErr_zero h.tree).1
  obtain ⟨o, h1, h2, h3, h4, h5, _⟩ := best_ok h (c := fun _ => 0) (fun _ _ => by omega) hp0
  rw [scoreN_eq h]
  rw [gi_tabRow _ _ _ _ h2] at h3 h4
  refine ⟨o, h1, h2, h3, by rw [h4]; omega, fun j hj hj0 => ?_⟩
  have := h5 j hj (by rw [gi_tabRow _ _ _ _ hj]; exact hj0)
  rw [gi_tabRow _ _ _ _ hj] at this
  omega
theorem score_nonneg (h : Valid t st cs) : 0 ≤ scoreN t st cs := by obtain ⟨o, _, _, h3, h4, _⟩ := score_ok h; omega
theorem score_far (h : Valid t st cs) : scoreN t st cs ≤ 100000 := by
  obtain ⟨o, _, h2, _, h4, _⟩ := score_ok h
  have := (h.tb 0 o (treeErr_zero h.tree).1).2
  rw [gi_tabRow _ _ _ _ h2] at this; omega
/-- A leaf whose state becomes unknown: no greater score. -/
theorem score_set (h : Valid t st cs) (j : Nat) : scoreN t (st.set j (-1)) cs ≤ scoreN t st cs := by
  have hp0 := (treeErr_zero h.tree).1
  have hm := tab_mono h.fine (h.set j).fine (fun i _ => ownS_set t.ns st j i) (d := t.ps.length) (i := 0) (by omega) hp0
  obtain ⟨o, _, ho, h3, h4, _⟩ := score_ok h
  obtain ⟨_, _, _, _, _, h6⟩ := score_ok (h.set j)
  have h7 := hm o ho
  unfold tabT at *
  rcases h7 with h7 | ⟨h7, h8⟩
  · omega
  · have := h6 o ho h7; omega
def dblC (cs : List (List Int)) : List (List Int) := cs.map fun r => r.map (2 * ·)
theorem gl_dblC (cs : List (List Int)) (a : Nat) : gl (dblC cs) a = (gl cs a).map (2 * ·) := by
  unfold gl dblC
  by_cases h : a < cs.length
  · simp [h]
  · simp [List.getElem?_eq_none (by omega : cs.length ≤ a)]
theorem gi_dbl (r : List Int) (b : Nat) : gi (r.map (2 * ·)) b = 2 * gi r b := by
  unfold gi
  by_cases h : b < r.length
  · simp [h]
  · simp [List.getElem?_eq_none (by omega : r.length ≤ b)]
theorem dbl_len (cs : List (List Int)) : (dblC cs).length = cs.length := by simp [dblC]
theorem dbl_lenBad (cs : List (List Int)) : lenBad (dblC cs) = lenBad cs := by
  unfold lenBad; rw [dbl_len]
  congr 1; funext a; rw [gl_dblC, List.length_map]
theorem dbl_err (h : Valid t st cs) : parErr t st (dblC cs) = 0 ∨ parErr t st (dblC cs) = 2 := by
  obtain ⟨m1, m2, m3, _, _⟩ := matErr_zero h.mat
  have hk : knownErr st (leavesL t.ns).length (-1) (dblC cs).length = 0 := by
    unfold knownErr; rw [if_neg (fun e => e h.len), dbl_len, h.good]; rfl
  have hl : lenBad (dblC cs) = false := by
    rw [dbl_lenBad]; exact any_none fun a ha => by simp [m3 a ha]
  unfold parErr
  rw [if_neg (fun e => e h.tree), hk]
  have hm : matErr (dblC cs) = 0 ∨ matErr (dblC cs) = 2 := by
    unfold matErr
    rw [dbl_len, if_neg (by omega), if_neg (by omega), hl]
    simp only [Bool.false_eq_true, if_false]
    split
    · exact .inr rfl
    · exact .inl rfl
  rcases hm with e | e
  · rw [e]; exact .inl rfl
  · rw [e]; exact .inr rfl
theorem score_dbl (h : Valid t st cs) (h2 : Valid t st (dblC cs)) : scoreN t st (dblC cs) = 2 * scoreN t st cs := by
  have hp0 := (treeErr_zero h.tree).1
  obtain ⟨m1, m2, m3, m4, _⟩ := matErr_zero h.mat
  have htab := tab_dbl (cost' := costF (dblC cs)) h.fine (fun a b _ _ => by unfold costF; rw [gl_dblC, gi_dbl]) (d := t.ps.length) (i := 0) (by omega) hp0
  have hb := bestK_dbl' (c := fun _ => 0) (c' := fun _ => 0) (r := gi (tabRow t st cs 0)) (r' := gi (tabRow t st (dblC cs) 0)) (k := cs.length) (fun _ _ => Int.le_refl _) (fun _ _ => rfl) (fun j hj => by
    rw [gi_tabRow _ _ _ _ (by rw [dbl_len]; exact hj), gi_tabRow _ _ _ _ hj]
    have := htab j hj
    unfold tabT; rw [dbl_len]; exact this)
  have hn := score_nonneg h
  rw [scoreN_eq h2, dbl_len, hb, ← scoreN_eq h]
  unfold dbl; rw [if_neg (by omega)]
theorem root_par (h : Valid t st cs) : gi t.ps 0 < 0 := by
  have := (par_ok (treeErr_zero h.tree).2.2.2.1 (treeErr_zero h.tree).1).2.2 rfl; omega
theorem nodeC_sum (t : Tre) (cs : List (List Int)) (all : List Int) (k : Nat) : nodeC t cs all k = sumN (fun c => if k < c ∧ gi t.ps c = k then edgeC cs all k c else 0) t.ps.length := by
  unfold nodeC kidsL; rw [kidsK_sum]
/-- An assignment fits the states of the leaves. -/
def FitsB (t : Tre) (st all : List Int) : Prop := ∀ i, i < (leavesL t.ns).length → 0 ≤ gi st i → gi all (gi (leavesL t.ns) i).toNat = gi st i
theorem fits_own {all : List Int} (hf : FitsB t st all) (k : Nat) (h0 : 0 ≤ ownS t.ns st k) : gi all k = ownS t.ns st k := by
  have h1 : 0 ≤ leafIx t.ns k := by
    unfold ownS at h0
    by_cases e : 0 ≤ leafIx t.ns k
    · exact e
    · rw [if_neg e] at h0; omega
  obtain ⟨h2, h3⟩ := leafIx_lt h1
  have h4 := ownS_of (st := st) h2 h3
  rw [h4] at h0 ⊢
  have := hf _ h2 h0
  rw [h3, Int.toNat_natCast] at this; exact this
theorem tab_fits (h : Valid t st cs) {all : List Int} (ha : AllOk t.ps.length cs.length all) (hf : FitsB t st all) {k : Nat} (hk : k < t.ps.length) : 0 ≤ tabT t st cs k (gi all k).toNat := by
  obtain ⟨_, _, h3, h4⟩ := tab_bd h.fine (d := t.ps.length) (i := k) (by omega) hk
  obtain ⟨a1, a2⟩ := ha.2 k hk
  have ho := h.fine.own1 k hk
  unfold tabT
  by_cases h0 : 0 ≤ ownS t.ns st k
  · have h5 := h4 h0 (gi all k).toNat (by omega)
    have h6 := fits_own hf k h0
    rw [h5, if_pos (by omega)]; exact Int.le_refl _
  · exact h3 (by omega) _ (by omega)
/-- No assignment that fits costs less than the score. -/
theorem score_le (h : Valid t st cs) {all : List Int} (ha : AllOk t.ps.length cs.length all) (hf : FitsB t st all) : scoreN t st cs ≤ costL t cs all := by
  obtain ⟨hp0, _, _, hok, _⟩ := treeErr_zero h.tree
  have F := h.fine
  have hroot := root_par h
  have hw := whole_le (n := t.ps.length) (par := gi t.ps) F.parlt hroot F.par0 hp0 (T := fun k => tabT t st cs k (gi all k).toNat) (N := nodeC t cs all) (fun k hk => by
    obtain ⟨a1, a2⟩ := ha.2 k hk
    have e := tab_eq (m := cs.length) (par := gi t.ps) (own := ownS t.ns st) (cost := costF cs) hk (gi all k).toNat
    unfold rowF at e
    have hbase : ¬ (0 ≤ ownS t.ns st k ∧ ownS t.ns st k ≠ ((gi all k).toNat : Nat)) := fun hh => by
      have := fits_own hf k hh.1; omega
    rw [if_neg hbase] at e
    show tabT t st cs k (gi all k).toNat ≤ _
    have e' : tabT t st cs k (gi all k).toNat = 0 + sumN (fun c => if k < c ∧ gi t.ps c = k then (bestK (costF cs (gi all k).toNat) (tabT t st cs c) cs.length).1 else 0) t.ps.length := e
    rw [e', nodeC_sum, ← sumN_add, Int.zero_add]
    refine sumN_mono fun c hc => ?_
    show (if k < c ∧ gi t.ps c = k then _ else (0 : Int)) ≤ (if k < c ∧ gi t.ps c = k then _ else 0) + (if k < c ∧ gi t.ps c = k then _ else 0)
    split
    · obtain ⟨b1, b2⟩ := ha.2 c hc
      have hT := tab_fits h ha hf hc
      rcases bestK_spec (A := 1000 * (t.ps.length : Int)) (by omega) (c := costF cs (gi all k).toNat) (row := tabT t st cs c) (k := cs.length) (fun j hj => F.cost1 _ j (by omega) hj) (fun j hj => tab_le_far F hc hj) with ⟨_, h3⟩ | ⟨o, _, _, _, _, h5, _⟩
      · have := h3 (gi all c).toNat (by omega); omega
      · have := h5 (gi all c).toNat (by omega) hT
        unfold edgeC; exact this
    · omega)
  obtain ⟨_, _, _, _, _, h6⟩ := score_ok h
  obtain ⟨a1, a2⟩ := ha.2 0 hp0
  have := h6 (gi all 0).toNat (by omega) (tab_fits h ha hf hp0)
  unfold costL costK
  omega
theorem asgL_len (t : Tre) (st : List Int) (cs : List (List Int)) : (asgL t st cs).length = t.ps.length := asgK_len t st cs _
theorem asg_ok (h : Valid t st cs) : AllOk t.ps.length cs.length (asgL t st cs) := by
  refine ⟨asgL_len t st cs, fun k hk => ?_⟩
  obtain ⟨o, h1, h2⟩ := asgK_ok h (k := t.ps.length) (j := k) (Nat.le_refl _) hk
  unfold asgL; rw [h1]; omega
theorem asg_at (h : Valid t st cs) {k : Nat} (hk : k < t.ps.length) : gi (asgL t st cs) k = (bestK (if k = 0 then fun _ => 0 else gi (gl cs (gi (asgL t st cs) (gi t.ps k).toNat).toNat)) (gi (tabRow t st cs k)) cs.length).2 := by
  have h1 : gi (asgL t st cs) k = asgAt t st cs (asgK t st cs k) k := by unfold asgL; rw [gi_asgK_le t st cs (Nat.lt_succ_self k) (by omega), gi_asgK_new]
  rw [h1]; unfold asgAt
  by_cases e : k = 0
  · simp [e]
  · simp only [e, if_false]
    have hp := (par_ok (treeErr_zero h.tree).2.2.2.1 hk)
    have h2 := hp.1
    have h3 := hp.2.1 (by omega)
    have h4 : gi (asgL t st cs) (gi t.ps k).toNat = gi (asgK t st cs k) (gi t.ps k).toNat := by unfold asgL; exact gi_asgK_le t st cs (by omega) (by omega)
    rw [h4]
theorem asg_tab (h : Valid t st cs) {k : Nat} (hk : k < t.ps.length) : 0 ≤ tabT t st cs k (gi (asgL t st cs) k).toNat := by
  obtain ⟨o, h1, h2, h3⟩ := asgAt_ok h (asgK t st cs k) hk
  have h4 : gi (asgL t st cs) k = asgAt t st cs (asgK t st cs k) k := by unfold asgL; rw [gi_asgK_le t st cs (Nat.lt_succ_self k) (by omega), gi_asgK_new]
  rw [gi_tabRow _ _ _ _ h2] at h3
  rw [h4, h1, Int.toNat_natCast]; exact h3
theorem asg_fits (h : Valid t st cs) : FitsB t st (asgL t st cs) := by
  intro i hi h0
  obtain ⟨k, e, hk, _⟩ := leaf_nat hi
  have hkn : k < t.ps.length := by rw [← (treeErr_zero h.tree).2.2.1]; exact hk
  rw [e, Int.toNat_natCast]
  have ho := ownS_of (st := st) hi e
  obtain ⟨_, _, _, h4⟩ := tab_bd h.fine (d := t.ps.length) (i := k) (by omega) hkn
  obtain ⟨a1, a2⟩ := (asg_ok h).2 k hkn
  have h5 := h4 (by rw [ho]; exact h0) (gi (asgL t st cs) k).toNat (by omega)
  have h6 := asg_tab h hkn
  unfold tabT at h6
  rw [h5] at h6
  split at h6
  · rename_i e2; rw [ho] at e2; omega
  · omega
/-- The best assignment costs the score. -/
theorem asg_cost (h : Valid t st cs) : costL t cs (asgL t st cs) = scoreN t st cs := by
  obtain ⟨hp0, _, _, hok, _⟩ := treeErr_zero h.tree
  have F := h.fine
  have ha := asg_ok h
  have hw := whole_eq (n := t.ps.length) (par := gi t.ps) F.parlt (root_par h) F.par0 hp0 (T := fun k => tabT t st cs k (gi (asgL t st cs) k).toNat) (N := nodeC t cs (asgL t st cs)) (fun k hk => by
    obtain ⟨a1, a2⟩ := ha.2 k hk
    have e := tab_eq (m := cs.length) (par := gi t.ps) (own := ownS t.ns st) (cost := costF cs) hk (gi (asgL t st cs) k).toNat
    unfold rowF at e
    have hbase : ¬ (0 ≤ ownS t.ns st k ∧ ownS t.ns st k ≠ ((gi (asgL t st cs) k).toNat : Nat)) := fun hh => by
      have := fits_own (asg_fits h) k hh.1; omega
    rw [if_neg hbase] at e
    show tabT t st cs k (gi (asgL t st cs) k).toNat = _
    have e' : tabT t st cs k (gi (asgL t st cs) k).toNat = 0 + sumN (fun c => if k < c ∧ gi t.ps c = k then (bestK (costF cs (gi (asgL t st cs) k).toNat) (tabT t st cs c) cs.length).1 else 0) t.ps.length := e
    rw [e', nodeC_sum, ← sumN_add, Int.zero_add]
    refine sumN_congr fun c hc => ?_
    show (if k < c ∧ gi t.ps c = k then _ else (0 : Int)) = (if k < c ∧ gi t.ps c = k then _ else 0) + (if k < c ∧ gi t.ps c = k then _ else 0)
    split
    · rename_i hkc
      have hat := asg_at h hc
      rw [if_neg (by omega), hkc.2, Int.toNat_natCast] at hat
      obtain ⟨o, h1, h2, h3, h4, _⟩ := best_ok h (c := gi (gl cs (gi (asgL t st cs) k).toNat)) (fun j hj => costF_bd h _ j hj) hc
      rw [h1] at hat
      have hbe : bestK (costF cs (gi (asgL t st cs) k).toNat) (tabT t st cs c) cs.length = bestK (gi (gl cs (gi (asgL t st cs) k).toNat)) (gi (tabRow t st cs c)) cs.length := bestK_congr (fun _ _ => rfl) fun j hj => (gi_tabRow t st cs c hj).symm
      rw [hbe, h4, gi_tabRow _ _ _ _ h2]
      unfold edgeC costF
      rw [hat, Int.toNat_natCast]
    · rfl)
  obtain ⟨o, h1, _, _, h4, _⟩ := score_ok h
  have hat := asg_at h hp0
  rw [if_pos rfl, h1] at hat
  rw [hat, Int.toNat_natCast] at hw
  unfold costL costK
  omega
end
end Go.Proofs.Ytflikmllpimaiaa
