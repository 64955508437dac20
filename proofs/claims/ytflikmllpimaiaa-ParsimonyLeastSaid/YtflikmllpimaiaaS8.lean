/- Plain: what valid arguments are. -/
import Derived.Test.YtflikmllpimaiaaS7
namespace Go.Proofs.Ytflikmllpimaiaa
theorem parErr_zero {t : Tre} {st : List Int} {cs : List (List Int)} (h : parErr t st cs = 0) : treeErr t = 0 ∧ matErr cs = 0 ∧ knownErr st (leavesL t.ns).length (-1) cs.length = 0 := by
  unfold parErr at h
  by_cases h1 : treeErr t = 0
  · rw [if_neg (fun e => e h1)] at h
    by_cases h2 : matErr cs = 0
    · rw [if_neg (fun e => e h2)] at h; exact ⟨h1, h2, h⟩
    · rw [if_pos h2] at h; exact absurd h h2
  · rw [if_pos h1] at h; cases h
theorem treeErr_zero {t : Tre} (h : treeErr t = 0) : 0 < t.ps.length ∧ t.ps.length ≤ 64 ∧ t.ns.length = t.ps.length ∧ pOkB t.ps = true ∧ ∀ i, i < t.ps.length → nErr t.ps t.ns i = 0 := by
  unfold treeErr at h
  split at h
  · cases h
  · split at h
    · cases h
    · split at h
      · cases h
      · split at h
        · exact ⟨by omega, by omega, by omega, ‹_›, firstNZ_eq_zero h⟩
        · cases h
theorem matErr_zero {cs : List (List Int)} (h : matErr cs = 0) : 0 < cs.length ∧ cs.length ≤ 16 ∧ (∀ a, a < cs.length → (gl cs a).length = cs.length) ∧ (∀ a k, 0 ≤ gi (gl cs a) k ∧ gi (gl cs a) k ≤ 1000) ∧ ∀ a, a < cs.length → gi (gl cs a) a = 0 := by
  unfold matErr at h
  split at h
  · cases h
  · split at h
    · cases h
    · split at h
      · cases h
      · rename_i hl
        split at h
        · cases h
        · rename_i hm
          have hl2 : lenBad cs = false := by simpa using hl
          have hm2 : matBadK cs cs.length = false := by simpa using hm
          have hlen : ∀ a, a < cs.length → (gl cs a).length = cs.length := fun a ha => by have := any_false hl2 ha; simpa using this
          have hbad : ∀ a b, a < cs.length → b < (gl cs a).length → badc a b (gi (gl cs a) b) = false := fun a b ha hb => any_false (any_false hm2 ha) hb
          refine ⟨by omega, by omega, hlen, fun a k => ?_, fun a ha => ?_⟩
          · by_cases ha : a < cs.length
            · by_cases hk : k < (gl cs a).length
              · have := hbad a k ha hk
                simp [badc] at this; omega
              · have : gi (gl cs a) k = 0 := by simp [gi, List.getElem?_eq_none (by omega : (gl cs a).length ≤ k)]
                omega
            · have : gl cs a = [] := by simp [gl, List.getElem?_eq_none (by omega : cs.length ≤ a)]
              rw [this]; simp [gi]
          · have := hbad a a ha (by rw [hlen a ha]; exact ha)
            simp [badc] at this; exact this.2
theorem mem_leavesL {ns : List ByteArray} {x : Int} : x ∈ leavesL ns ↔ ∃ i : Nat, x = i ∧ i < ns.length ∧ (gs ns i).size ≠ 0 := by
  unfold leavesL
  rw [List.mem_map]
  constructor
  · rintro ⟨i, hi, rfl⟩
    rw [List.mem_filter, List.mem_range] at hi
    exact ⟨i, rfl, hi.1, by simpa using hi.2⟩
  · rintro ⟨i, rfl, h1, h2⟩
    exact ⟨i, by rw [List.mem_filter, List.mem_range]; exact ⟨h1, by simpa using h2⟩, rfl⟩
theorem leavesL_len (ns : List ByteArray) : (leavesL ns).length ≤ ns.length := by
  unfold leavesL; rw [List.length_map]; exact Nat.le_trans (List.length_filter_le _ _) (by simp)
theorem gi_mem {l : List Int} {k : Nat} (h : k < l.length) : gi l k ∈ l := by simp [gi, h]
theorem leafIx_lt {ns : List ByteArray} {i : Nat} (h : 0 ≤ leafIx ns i) : (leafIx ns i).toNat < (leavesL ns).length ∧ gi (leavesL ns) (leafIx ns i).toNat = i := by
  unfold leafIx at h ⊢
  generalize hx : firstIx (fun j => decide ((i : Int) = gi (leavesL ns) j)) (leavesL ns).length = x at *
  obtain ⟨k, rfl⟩ := Int.eq_ofNat_of_zero_le h
  have := firstIx_spec hx
  rw [Int.toNat_natCast]
  exact ⟨this.1, by have := this.2.1; simpa using (of_decide_eq_true this).symm⟩
/-- Valid arguments. -/
structure Valid (t : Tre) (st : List Int) (cs : List (List Int)) : Prop where
  tree : treeErr t = 0
  mat : matErr cs = 0
  len : st.length = (leavesL t.ns).length
  good : stBad st (-1) cs.length = false
theorem parErr_valid {t : Tre} {st : List Int} {cs : List (List Int)} (h : parErr t st cs = 0) : Valid t st cs := by
  obtain ⟨h1, h2, h3⟩ := parErr_zero h
  unfold knownErr at h3
  split at h3
  · cases h3
  · split at h3
    · cases h3
    · exact ⟨h1, h2, by omega, by simpa using ‹¬ stBad st (-1) cs.length = true›⟩
theorem Valid.par {t : Tre} {st : List Int} {cs : List (List Int)} (h : Valid t st cs) : parErr t st cs = 0 := by
  unfold parErr knownErr; rw [if_neg (fun e => e h.tree), if_neg (fun e => e h.mat), if_neg (fun e => e h.len), h.good]; rfl
theorem par_ok {ps : List Int} (h : pOkB ps = true) {c : Nat} (hc : c < ps.length) : gi ps c < c ∧ (0 < c → 0 ≤ gi ps c) ∧ (c = 0 → gi ps c = -1) := by
  have := pOkB_at h hc
  unfold okp at this
  split at this
  · simp at this; omega
  · simp at this; omega
theorem inner_empty {t : Tre} (h : treeErr t = 0) {i c : Nat} (hc : c < t.ps.length) (hi : i < c) (hp : gi t.ps c = i) : (gs t.ns i).size = 0 := by
  obtain ⟨_, _, _, hok, hn⟩ := treeErr_zero h
  have hin : isIn t.ps i = true := List.any_eq_true.2 ⟨c, List.mem_range.2 hc, by simp [hp]; omega⟩
  have := hn i (by omega)
  unfold nErr at this
  rw [if_pos hin] at this
  by_cases e : (gs t.ns i).size = 0
  · exact e
  · rw [if_neg e] at this; cases this
theorem leaf_named {t : Tre} (h : treeErr t = 0) {i : Nat} (hi : i < t.ps.length) (hin : isIn t.ps i = false) : namedB (gs t.ns i).data.toList = true ∧ seenK t.ns i = false := by
  obtain ⟨_, _, _, hok, hn⟩ := treeErr_zero h
  have := hn i hi
  unfold nErr at this
  rw [hin] at this
  cases h1 : namedB (gs t.ns i).data.toList
  · rw [h1] at this; cases this
  · cases h2 : seenK t.ns i
    · exact ⟨rfl, rfl⟩
    · rw [h1, h2] at this; cases this
theorem Valid.fine {t : Tre} {st : List Int} {cs : List (List Int)} (h : Valid t st cs) : Fine t.ps.length cs.length (gi t.ps) (ownS t.ns st) (costF cs) := by
  obtain ⟨h1, h2, h3, hok, hn⟩ := treeErr_zero h.tree
  obtain ⟨m1, m2, m3, m4, m5⟩ := matErr_zero h.mat
  refine ⟨m1, fun c h0 hc => (par_ok hok hc).2.1 h0, fun c hc => (par_ok hok hc).1, fun i _ => ?_, fun a b _ _ => m4 a b, fun i c hc hic hp => ?_⟩
  · unfold ownS
    split
    · rename_i h0
      have hl := leafIx_lt h0
      have hb := any_false h.good (k := (leafIx t.ns i).toNat) (by rw [h.len]; exact hl.1)
      simp at hb; omega
    · omega
  · unfold ownS
    rw [if_neg]; intro h0
    have hl := leafIx_lt h0
    have hm : (i : Int) ∈ leavesL t.ns := by rw [← hl.2]; exact gi_mem hl.1
    obtain ⟨j, e, _, hne⟩ := mem_leavesL.1 hm
    obtain rfl : i = j := by omega
    exact hne (inner_empty h.tree hc hic hp)
theorem Valid.tb {t : Tre} {st : List Int} {cs : List (List Int)} (h : Valid t st cs) (j s : Nat) (hj : j < t.ps.length) : -1 ≤ gi (tabRow t st cs j) s ∧ gi (tabRow t st cs j) s ≤ 100000 := by
  by_cases hs : s < cs.length
  · rw [gi_tabRow t st cs j hs]
    have h1 := (tab_bd h.fine (d := t.ps.length) (i := j) (by omega) hj).1 s hs
    have h2 := ub_le (par := gi t.ps) h.fine.parlt hj
    obtain ⟨_, h3, _⟩ := treeErr_zero h.tree
    unfold tabT
    constructor <;> omega
  · have : gi (tabRow t st cs j) s = 0 := by simp [gi, tabRow, hs]
    omega
def scoreN (t : Tre) (st : List Int) (cs : List (List Int)) : Int := if parErr t st cs = 0 then (bestK (fun _ => 0) (gi (tabRow t st cs 0)) cs.length).1 else 0
end Go.Proofs.Ytflikmllpimaiaa
