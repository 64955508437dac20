/- Plain laws for ParsimonyFitch: the cost as a sum over edges, different states counted, unit costs. Plain laws for ParsimonyFitch: with unit costs the score lies between the different known states and the known leaves, and does not depend on how many states there may be. -/
import Derived.Test.YtflikmllpimaiaaS
import Derived.Test.YtflikmllpimaiaaU0
namespace Go.Proofs.Ytflikmllpimaiaa
theorem sumN_swap (f : Nat → Nat → Int) (m : Nat) : ∀ n, sumN (fun a => sumN (fun b => f a b) m) n = sumN (fun b => sumN (fun a => f a b) n) m
  | 0 => by simp only [sumN]; exact (sumN_zero m).symm
  | n + 1 => by
    rw [sumN_succ, sumN_swap f m n, ← sumN_add]
    rfl
/-- The cost of an assignment, edge by edge. -/
theorem costL_edges {t : Tre} (hok : pOkB t.ps = true) (cs : List (List Int)) (all : List Int) : costL t cs all = sumN (fun c => if 0 < c then edgeC cs all (gi t.ps c).toNat c else 0) t.ps.length := by
  unfold costL costK
  rw [sumN_congr (fun k _ => nodeC_sum t cs all k), sumN_swap]
  refine sumN_congr fun c hc => ?_
  obtain ⟨h1, h2, h3⟩ := par_ok hok hc
  by_cases h0 : 0 < c
  · rw [if_pos h0]
    have hp := h2 h0
    obtain ⟨p, hpp⟩ := Int.eq_ofNat_of_zero_le hp
    have h4 : ∀ k, k < t.ps.length → (if k < c ∧ gi t.ps c = (k : Int) then edgeC cs all k c else 0) = if k = p then edgeC cs all p c else 0 := fun k _ => by
      by_cases e : k = p
      · subst e; rw [if_pos ⟨by omega, hpp⟩, if_pos rfl]
      · rw [if_neg (by omega), if_neg e]
    rw [sumN_congr h4, sumN_one, if_pos (by omega), hpp]; rfl
  · rw [if_neg h0]
    have h4 : ∀ k, k < t.ps.length → (if k < c ∧ gi t.ps c = (k : Int) then edgeC cs all k c else 0) = 0 := fun k _ => if_neg (by omega)
    rw [sumN_congr h4, sumN_zero]
/-- Each element once. -/
def dd : List Int → List Int
  | [] => []
  | x :: l => if x ∈ dd l then dd l else x :: dd l
theorem mem_dd {x : Int} : ∀ {l : List Int}, x ∈ dd l ↔ x ∈ l
  | [] => Iff.rfl
  | y :: l => by
    unfold dd
    split
    · rename_i h
      rw [mem_dd (l := l), List.mem_cons]
      exact ⟨.inr, fun h2 => h2.elim (fun e => by rw [e]; exact mem_dd.1 h) id⟩
    · rw [List.mem_cons, List.mem_cons, mem_dd (l := l)]
theorem dd_nodup : ∀ l : List Int, (dd l).Nodup
  | [] => List.nodup_nil
  | y :: l => by
    unfold dd
    split
    · exact dd_nodup l
    · rename_i h; exact List.nodup_cons.2 ⟨h, dd_nodup l⟩
theorem dd_le {l m : List Int} (h : ∀ x ∈ l, x ∈ m) : (dd l).length ≤ (dd m).length :=
  (dd_nodup l).length_le_of_subset fun x hx => mem_dd.2 (h x (mem_dd.1 hx))
theorem dd_cons_le (x : Int) (l : List Int) : ((dd (x :: l)).length : Int) ≤ (dd l).length + if x ∈ l then 0 else 1 := by
  show (((if x ∈ dd l then dd l else x :: dd l) : List Int).length : Int) ≤ _
  by_cases h : x ∈ dd l
  · rw [if_pos h, if_pos (mem_dd.1 h)]; omega
  · rw [if_neg h, if_neg (fun h2 => h (mem_dd.2 h2))]; simp
def backL (a : Nat → Int) : Nat → List Int
  | 0 => []
  | k + 1 => a k :: backL a k
theorem mem_backL {a : Nat → Int} {x : Int} : ∀ {k : Nat}, x ∈ backL a k ↔ ∃ j, j < k ∧ a j = x
  | 0 => ⟨fun h => absurd h (List.not_mem_nil), fun ⟨j, h, _⟩ => absurd h (Nat.not_lt_zero _)⟩
  | k + 1 => by
    show x ∈ a k :: backL a k ↔ _
    rw [List.mem_cons, mem_backL]
    constructor
    · rintro (e | ⟨j, hj, e⟩)
      · exact ⟨k, Nat.lt_succ_self k, e.symm⟩
      · exact ⟨j, by omega, e⟩
    · rintro ⟨j, hj, e⟩
      by_cases h : j = k
      · subst h; exact .inl e.symm
      · exact .inr ⟨j, by omega, e⟩
/-- Along a tree there are at most as many different values, less one, as edges that change. -/
theorem dd_edges {p : Nat → Nat} (hp : ∀ c, 0 < c → p c < c) (a : Nat → Int) : ∀ {k : Nat}, 0 < k → ((dd (backL a k)).length : Int) ≤ 1 + sumN (fun c => if 0 < c then (if a (p c) = a c then 0 else 1) else 0) k := by
  intro k
  induction k with
  | zero => intro h; exact absurd h (Nat.lt_irrefl 0)
  | succ k ih =>
    intro _
    show ((dd (a k :: backL a k)).length : Int) ≤ _
    have h1 := dd_cons_le (a k) (backL a k)
    rw [sumN_succ]
    by_cases h0 : 0 < k
    · have h2 := ih h0
      rw [if_pos h0]
      by_cases e : a (p k) = a k
      · rw [if_pos (mem_backL.2 ⟨p k, hp k h0, e⟩)] at h1
        rw [if_pos e]; omega
      · rw [if_neg e]
        have : (if a k ∈ backL a k then (0 : Int) else 1) ≤ 1 := by split <;> omega
        omega
    · have : k = 0 := by omega
      subst this
      simp [dd, backL, sumN]
theorem dd_edges' {p : Nat → Nat} {a : Nat → Int} {n : Nat} (hp : ∀ c, c < n → 0 < c → p c < c) {k : Nat} (h0 : 0 < k) (hk : k ≤ n) : ((dd (backL a k)).length : Int) ≤ 1 + sumN (fun c => if 0 < c then (if a (p c) = a c then 0 else 1) else 0) k := by
  have h := dd_edges (p := fun c => if c < n then p c else 0) (fun c hc => by
    show (if c < n then p c else 0) < c
    split
    · exact hp c ‹_› hc
    · exact hc) a h0
  rwa [sumN_congr (g := fun c => if 0 < c then (if a (p c) = a c then 0 else 1) else 0) (fun c hc => by show (if 0 < c then (if a (if c < n then p c else 0) = a c then (0 : Int) else 1) else 0) = _; rw [if_pos (show c < n by omega)])] at h
theorem cost_unit {n a b : Nat} (ha : a < n) (hb : b < n) : costF (unitL n) a b = if a = b then 0 else 1 := by
  unfold costF; rw [gl_unitL ha, gi_unitRow hb]; rfl
end Go.Proofs.Ytflikmllpimaiaa
namespace Go.Proofs.Ytflikmllpimaiaa
theorem mat4 : matErr (unitL 4) = 0 := by decide +kernel
theorem matN16 : matErr (unitL 16) = 0 := by decide +kernel
theorem st_bd {st : List Int} {m : Int} (h : stBad st (-1) m = false) {k : Nat} (hk : k < st.length) : -1 ≤ gi st k ∧ gi st k < m := by
  have := any_false h hk
  simp at this; omega
theorem mem_gi {l : List Int} {x : Int} (h : x ∈ l) : ∃ k, k < l.length ∧ gi l k = x := by
  obtain ⟨k, hk, e⟩ := List.mem_iff_getElem.1 h
  exact ⟨k, hk, by simp [gi, hk, e]⟩
section
variable {t : Tre} {st : List Int}
theorem valid16 (h : Valid t st (unitL 4)) : Valid t st (unitL 16) := by
  refine ⟨h.tree, matN16, h.len, any_none fun k hk => ?_⟩
  have := st_bd h.good hk
  rw [unitL_len] at this ⊢
  simp; omega
theorem edge_u {n : Nat} {all : List Int} {N : Nat} (ha : AllOk N n all) {p c : Nat} (hp : p < N) (hc : c < N) : edgeC (unitL n) all p c = if gi all p = gi all c then 0 else 1 := by
  obtain ⟨a1, a2⟩ := ha.2 p hp
  obtain ⟨b1, b2⟩ := ha.2 c hc
  unfold edgeC
  rw [cost_unit (by omega) (by omega)]
  by_cases e : gi all p = gi all c
  · rw [if_pos e, if_pos (by rw [e])]
  · rw [if_neg e, if_neg (by omega)]
theorem costL_u (ht : treeErr t = 0) {n : Nat} {all : List Int} (ha : AllOk t.ps.length n all) : costL t (unitL n) all = sumN (fun c => if 0 < c then (if gi all (gi t.ps c).toNat = gi all c then 0 else 1) else 0) t.ps.length := by
  have hok := (treeErr_zero ht).2.2.2.1
  rw [costL_edges hok]
  refine sumN_congr fun c hc => ?_
  by_cases h0 : 0 < c
  · obtain ⟨h1, h2, _⟩ := par_ok hok hc
    have := h2 h0
    rw [if_pos h0, if_pos h0, edge_u ha (by omega) hc]
  · rw [if_neg h0, if_neg h0]
theorem asg_all {cs : List (List Int)} (h : Valid t st cs) : AllOk t.ps.length cs.length (asgL t st cs) :=
  ⟨asgL_len t st cs, fun k hk => by obtain ⟨o, e, ho⟩ := asgK_ok h (k := t.ps.length) (Nat.le_refl _) hk; unfold asgL; rw [e]; omega⟩
/-- More states than occur change nothing. -/
theorem score_4_16 (h : Valid t st (unitL 4)) : scoreN t st (unitL 16) = scoreN t st (unitL 4) := by
  have h16 := valid16 h
  have ht := h.tree
  have e4 := asg_cost h
  have e16 := asg_cost h16
  have a4 := asg_all h
  have a16 := asg_all h16
  rw [unitL_len] at a4 a16
  have f16 := asg_fits h16
  have f4 := asg_fits h
  have a4' : AllOk t.ps.length 16 (asgL t st (unitL 4)) := ⟨a4.1, fun k hk => by have := a4.2 k hk; omega⟩
  have l1 := score_le h16 (all := asgL t st (unitL 4)) (by rw [unitL_len]; exact a4') f4
  rw [costL_u ht a4', ← costL_u ht a4, e4] at l1
  generalize hA : asgL t st (unitL 16) = A at *
  have hgi : ∀ k, k < t.ps.length → gi (A.map fun x => if x < 4 then x else 0) k = if gi A k < 4 then gi A k else 0 := fun k hk => by
    have : k < A.length := by rw [a16.1]; exact hk
    simp [gi, this]
  have b4 : AllOk t.ps.length 4 (A.map fun x => if x < 4 then x else 0) := ⟨by rw [List.length_map]; exact a16.1, fun k hk => by
    have := a16.2 k hk
    rw [hgi k hk]; split <;> omega⟩
  have l2 := score_le h (all := A.map fun x => if x < 4 then x else 0) (by rw [unitL_len]; exact b4) (fun i hi h0 => by
    obtain ⟨k, hk, hkn, _⟩ := leaf_nat hi
    rw [(treeErr_zero ht).2.2.1] at hkn
    have := f16 i hi h0
    have hb := st_bd h.good (k := i) (by rw [h.len]; exact hi)
    rw [unitL_len] at hb
    rw [hk, Int.toNat_natCast] at this ⊢
    rw [hgi k hkn, this, if_pos (by omega)])
  rw [costL_u ht b4] at l2
  rw [costL_u ht a16] at e16
  have l3 := sumN_mono (n := t.ps.length) (f := fun c => if 0 < c then (if gi (A.map fun x => if x < 4 then x else 0) (gi t.ps c).toNat = gi (A.map fun x => if x < 4 then x else 0) c then 0 else 1) else 0) (g := fun c => if 0 < c then (if gi A (gi t.ps c).toNat = gi A c then 0 else 1) else 0) (fun c hc => by
    by_cases h0 : 0 < c
    · obtain ⟨h1, h2, _⟩ := par_ok (treeErr_zero ht).2.2.2.1 hc
      have := h2 h0
      show (if 0 < c then _ else _) ≤ (if 0 < c then _ else _)
      rw [if_pos h0, if_pos h0]
      by_cases e : gi A (gi t.ps c).toNat = gi A c
      · rw [if_pos e, hgi _ (by omega), hgi c hc, e, if_pos rfl]; exact Int.le_refl _
      · rw [if_neg e]; split <;> omega
    · show (if 0 < c then _ else _) ≤ (if 0 < c then _ else _)
      rw [if_neg h0, if_neg h0]; exact Int.le_refl _)
  omega
/-- The known states. -/
def knownL (st : List Int) : List Int := st.filter fun s => decide (0 ≤ s)
theorem mem_knownL {x : Int} : x ∈ knownL st ↔ x ∈ st ∧ 0 ≤ x := by simp [knownL]
/-- Not less than the different known states less one. -/
theorem fitch_lo (h : Valid t st (unitL 4)) : ((dd (knownL st)).length : Int) - 1 ≤ scoreN t st (unitL 4) := by
  have ht := h.tree
  obtain ⟨hp0, _, _, hok, _⟩ := treeErr_zero ht
  have a4 := asg_all h
  rw [unitL_len] at a4
  rw [← asg_cost h, costL_u ht a4]
  have hb : (dd (knownL st)).length ≤ (dd (backL (gi (asgL t st (unitL 4))) t.ps.length)).length := dd_le fun x hx => by
    obtain ⟨h1, h2⟩ := mem_knownL.1 hx
    obtain ⟨i, hi, e⟩ := mem_gi h1
    rw [h.len] at hi
    obtain ⟨k, hk, hkn, _⟩ := leaf_nat hi
    have := asg_fits h i hi (by omega)
    rw [hk, Int.toNat_natCast] at this
    exact mem_backL.2 ⟨k, by rw [← (treeErr_zero ht).2.2.1]; exact hkn, by rw [this, e]⟩
  have hd := dd_edges' (p := fun c => (gi t.ps c).toNat) (a := gi (asgL t st (unitL 4))) (n := t.ps.length) (fun c hc h0 => by
    obtain ⟨h1, h2, _⟩ := par_ok hok hc
    have := h2 h0
    show (gi t.ps c).toNat < c
    omega) hp0 (Nat.le_refl _)
  omega
/-- The known leaves, node by node. -/
theorem leavesK_get {ns : List ByteArray} {k : Nat} (hk : (gs ns k).size ≠ 0) : ∀ {m : Nat}, k < m → (leavesK ns k).length < (leavesK ns m).length ∧ gi (leavesK ns m) (leavesK ns k).length = k
  | 0, h => absurd h (Nat.not_lt_zero _)
  | m + 1, h => by
    rw [leavesK_succ]
    by_cases e : k = m
    · subst e
      rw [if_neg hk]
      exact ⟨by simp, by rw [gi_append, if_neg (Nat.lt_irrefl _), if_pos rfl]⟩
    · obtain ⟨h1, h2⟩ := leavesK_get hk (m := m) (by omega)
      split
      · rw [List.append_nil]; exact ⟨h1, h2⟩
      · exact ⟨by simp; omega, by rw [gi_append, if_pos h1, h2]⟩
theorem ownS_none {ns : List ByteArray} (st : List Int) {k : Nat} (hk : (gs ns k).size = 0) : ownS ns st k = -1 := by
  unfold ownS
  refine if_neg fun h => ?_
  obtain ⟨h1, h2⟩ := leafIx_lt h
  obtain ⟨j, e, _, h3⟩ := leaf_nat h1
  rw [h2] at e
  have : k = j := by omega
  subst this; exact h3 hk
theorem known_count (ns : List ByteArray) {st : List Int} (hst : st.length = (leavesL ns).length) : ∀ {k : Nat}, k ≤ ns.length → sumN (fun c => if 0 ≤ ownS ns st c then 1 else 0) k = ((knownL (st.take (leavesK ns k).length)).length : Int)
  | 0, _ => by simp [sumN, leavesK, knownL]
  | k + 1, h => by
    rw [sumN_succ, known_count ns hst (Nat.le_of_succ_le h), leavesK_succ]
    by_cases e : (gs ns k).size = 0
    · rw [ownS_none st e, if_pos e, List.append_nil, if_neg (by omega)]; omega
    · obtain ⟨h1, h2⟩ := leavesK_get e (m := ns.length) h
      have h1 : (leavesK ns k).length < (leavesL ns).length := h1
      have h2 : gi (leavesL ns) (leavesK ns k).length = k := h2
      rw [ownS_of h1 h2, if_neg e, List.length_append]
      have hl : (leavesK ns k).length < st.length := by rw [hst]; exact h1
      have : st.take ((leavesK ns k).length + [(k : Int)].length) = st.take (leavesK ns k).length ++ [gi st (leavesK ns k).length] := by
        show st.take ((leavesK ns k).length + 1) = _
        rw [List.take_add_one]; simp [gi, hl]
      rw [this]
      unfold knownL
      rw [List.filter_append, List.length_append]
      by_cases h0 : 0 ≤ gi st (leavesK ns k).length
      · rw [if_pos h0]; simp [h0]
      · rw [if_neg h0]; simp [h0]
/-- Own state, or s. -/
def ownOr (t : Tre) (st : List Int) (s : Int) : List Int := (List.range t.ps.length).map fun k => if 0 ≤ ownS t.ns st k then ownS t.ns st k else s
theorem gi_ownOr {s : Int} {k : Nat} (hk : k < t.ps.length) : gi (ownOr t st s) k = if 0 ≤ ownS t.ns st k then ownS t.ns st k else s := by simp [gi, ownOr, hk]
theorem ownS_bd (h : Valid t st (unitL 4)) (k : Nat) : ownS t.ns st k < 4 := by
  unfold ownS
  split
  · rename_i h0
    obtain ⟨h1, _⟩ := leafIx_lt h0
    have := st_bd h.good (k := (leafIx t.ns k).toNat) (by rw [h.len]; exact h1)
    rw [unitL_len] at this; omega
  · omega
theorem own_le (h : Valid t st (unitL 4)) {s : Int} (h0 : 0 ≤ s) (h4 : s < 4) : scoreN t st (unitL 4) ≤ sumN (fun c => if 0 ≤ ownS t.ns st c ∧ ownS t.ns st c ≠ s then 1 else 0) t.ps.length := by
  have ht := h.tree
  obtain ⟨hp0, _, hn, hok, _⟩ := treeErr_zero ht
  have ha : AllOk t.ps.length 4 (ownOr t st s) := ⟨by simp [ownOr], fun k hk => by
    have := ownS_bd h k
    rw [gi_ownOr hk]; split <;> omega⟩
  have l := score_le h (all := ownOr t st s) (by rw [unitL_len]; exact ha) (fun i hi h0 => by
    obtain ⟨k, hk, hkn, _⟩ := leaf_nat hi
    rw [hk, Int.toNat_natCast, gi_ownOr (by omega), ownS_of hi hk, if_pos h0])
  rw [costL_u ht ha] at l
  refine Int.le_trans l (sumN_mono fun c hc => ?_)
  by_cases hc0 : 0 < c
  · obtain ⟨h1, h2, _⟩ := par_ok hok hc
    have h2 := h2 hc0
    obtain ⟨p, hp⟩ := Int.eq_ofNat_of_zero_le h2
    have hin := inner_empty ht hc (i := p) (by omega) hp
    show (if 0 < c then _ else _) ≤ _
    rw [if_pos hc0, hp, Int.toNat_natCast, gi_ownOr (by omega), gi_ownOr hc, ownS_none st hin, if_neg (show ¬ (0 : Int) ≤ -1 by omega)]
    by_cases e : 0 ≤ ownS t.ns st c
    · rw [if_pos e]
      by_cases e2 : s = ownS t.ns st c
      · rw [if_pos e2]; split <;> omega
      · rw [if_neg e2, if_pos ⟨e, fun e3 => e2 e3.symm⟩]; exact Int.le_refl _
    · rw [if_neg e, if_pos rfl, if_neg (fun hh => e hh.1)]; exact Int.le_refl _
  · show (if 0 < c then _ else _) ≤ _
    rw [if_neg hc0]; split <;> omega
/-- Less than the known leaves, or nothing. -/
theorem fitch_hi (h : Valid t st (unitL 4)) : scoreN t st (unitL 4) ≤ max 0 (((knownL st).length : Int) - 1) := by
  have ht := h.tree
  obtain ⟨hp0, _, hn, hok, _⟩ := treeErr_zero ht
  have hc := known_count t.ns h.len (k := t.ps.length) (by omega)
  have htk : st.take (leavesK t.ns t.ps.length).length = st := by
    rw [← hn]; exact List.take_of_length_le (by rw [h.len]; exact Nat.le_refl _)
  rw [htk] at hc
  by_cases hk : knownL st = []
  · rw [hk] at hc
    have l := own_le h (s := 0) (by omega) (by omega)
    have l2 := sumN_mono (n := t.ps.length) (f := fun c => if 0 ≤ ownS t.ns st c ∧ ownS t.ns st c ≠ 0 then 1 else 0) (g := fun c => if 0 ≤ ownS t.ns st c then 1 else 0) (fun c _ => by
      show (if _ then (1 : Int) else 0) ≤ (if _ then 1 else 0)
      by_cases e : 0 ≤ ownS t.ns st c
      · rw [if_pos e]; split <;> omega
      · rw [if_neg e, if_neg (fun hh => e hh.1)]; exact Int.le_refl _)
    simp at hc
    omega
  · obtain ⟨s, hs⟩ := List.exists_mem_of_ne_nil _ hk
    obtain ⟨h1, h2⟩ := mem_knownL.1 hs
    obtain ⟨i, hi, e⟩ := mem_gi h1
    have hb := st_bd h.good hi
    rw [unitL_len] at hb
    rw [h.len] at hi
    obtain ⟨k, hk2, hkn, _⟩ := leaf_nat hi
    have ho := ownS_of (st := st) hi hk2
    have l := own_le h (s := s) h2 (by omega)
    have l2 := sumN_mono (n := t.ps.length) (f := fun c => (if 0 ≤ ownS t.ns st c ∧ ownS t.ns st c ≠ s then 1 else 0) + if c = k then 1 else 0) (g := fun c => if 0 ≤ ownS t.ns st c then 1 else 0) (fun c _ => by
      show (if _ then (1 : Int) else 0) + (if c = k then 1 else 0) ≤ (if _ then 1 else 0)
      by_cases ec : c = k
      · subst ec
        rw [if_pos rfl, ho, e, if_neg (fun hh => hh.2 rfl), if_pos h2]; exact Int.le_refl _
      · rw [if_neg ec]
        by_cases e : 0 ≤ ownS t.ns st c
        · rw [if_pos e]; split <;> omega
        · rw [if_neg e, if_neg (fun hh => e hh.1)]; exact Int.le_refl _)
    rw [sumN_add, sumN_one, if_pos (by omega)] at l2
    omega
end
end Go.Proofs.Ytflikmllpimaiaa
