/- Rose trees: all parts of one; when its numbering is a valid tree. Sorting rose trees keeps the parts; sorted twice is sorted once; the rose tree of a valid tree is good. Which nodes lie below a node of a tree that is numbered depth first. What Consistent computes: plain. Rose trees appended to a tree that is numbered depth first. The tree that grow makes is a rose tree, numbered depth first. The rose tree of nested sets: leaves, sizes, no node with one child. The tree of groups that are not in conflict: valid, its leaves are the names, no node has one child. Which parts the rose tree of nested sets has: the sets, and the single sources. The contract of slices.Sort at strings: the laying. slices.Sort at strings that the call has built. The law's names: A, B, .. slices.Equal at strings. The plain law of SharederrorLeaves. A region that draws its order, only reads, and ends in one operation that may write: outside a round. The walk of sharederror.Consistent. -/
import Derived.Test.YtcbmbhghmfehpaaGreatQ13
import Derived.Test.YtcbmbhghmfehpaaGreatQ12
import Derived.Test.YtcbmbhghmfehpaaGreatQ6
import Derived.Test.YtcbmbhghmfehpaaGreatQ7
import Derived.Shelf.SlGeneric
import Derived.Shelf.Lays
import Derived.Shelf.Sort.Plain
import Derived.Ground.NamesProg
import Derived.Test.YtcbmbhghmfehpaaGreatProg
import Derived.Test.YtcbmbhghmfehpaaGreatQ3
import Derived.Test.YtcbmbhghmfehpaaGreatQ1
import Derived.Sort.OwnSorted
import Derived.Shelf.Slices.In.SortNone
import Derived.Laws.IdiomStrings
import Derived.Test.YtcbmbhghmfehpaaGreatQ2
namespace Go.Proofs.YtcbmbhghmfehpaaGreat
mutual
/-- All parts, depth first. -/
def subR : RT → List RT
  | .node nm ks => .node nm ks :: subRs ks
def subRs : List RT → List RT
  | [] => []
  | r :: rs => subR r ++ subRs rs
end
mutual
theorem subR_len : ∀ r : RT, (subR r).length = sizeR r
  | .node _ ks => by rw [subR, sizeR, List.length_cons, subRs_len ks]; omega
theorem subRs_len : ∀ rs : List RT, (subRs rs).length = sizeRs rs
  | [] => rfl
  | r :: rs => by rw [subRs, sizeRs, List.length_append, subR_len r, subRs_len rs]
end
mutual
theorem nsR_sub : ∀ r : RT, nsR r = (subR r).map RT.nm
  | .node nm ks => by rw [subR, nsR, List.map_cons, nsRs_sub ks]; rfl
theorem nsRs_sub : ∀ rs : List RT, nsRs rs = (subRs rs).map RT.nm
  | [] => rfl
  | r :: rs => by rw [subRs, nsRs, List.map_append, nsR_sub r, nsRs_sub rs]
end
theorem subRs_flat (rs : List RT) : subRs rs = rs.flatMap subR := by
  induction rs with
  | nil => rfl
  | cons r rs ih => rw [subRs, List.flatMap_cons, ih]
/-- The rose tree stands at n in the tree, its parent is p. -/
def AtR (t : Tre) (r : RT) (n : Nat) (p : Int) : Prop := ∃ pre post, t.ps = pre ++ (psR r n p ++ post) ∧ pre.length = n ∧ p < n ∧ (∀ x ∈ pre, x < (n : Int)) ∧ (∀ x ∈ post, x < (n : Int) ∨ ((n + sizeR r : Nat) : Int) ≤ x)
def AtRs (t : Tre) (rs : List RT) (own m : Nat) : Prop := ∃ pre post, t.ps = pre ++ (psRs rs own m ++ post) ∧ pre.length = m ∧ own < m ∧ (∀ x ∈ pre, x < (m : Int)) ∧ (∀ x ∈ post, x < (own : Int) ∨ ((m + sizeRs rs : Nat) : Int) ≤ x)
theorem AtR.kids {t : Tre} {nm : ByteArray} {ks : List RT} {n : Nat} {p : Int} (h : AtR t (.node nm ks) n p) : kidsL t.ps n = hdR ks (n + 1) ∧ AtRs t ks n (n + 1) := by
  obtain ⟨pre, post, hps, hpl, hp, hpre, hpost⟩ := h
  rw [sizeR] at hpost
  rw [psR, List.cons_append] at hps
  constructor
  · rw [kidsL_kf]
    · rw [hps, kf_app, kf_none n pre 0 (fun x hx e => by have := hpre x hx; omega), List.nil_append, kf, if_neg (by omega), kf_app, hpl, Nat.zero_add, kf_psRs n ks (n + 1) (by omega), psRs_len]
      rw [kf_none n post _ (fun x hx e => by rcases hpost x hx with h1 | h1 <;> omega), List.append_nil]
    · intro i hi e
      rw [hps] at e
      rcases Nat.lt_trichotomy i n with h1 | h1 | h1
      · rw [gi_app_l _ (by omega)] at e
        have := hpre _ (gi_mem (l := pre) (k := i) (by omega)); omega
      · subst h1
        have h2 := gi_app_r pre (p :: (psRs ks i (i + 1) ++ post)) 0
        rw [hpl] at h2
        have h2 : gi (pre ++ p :: (psRs ks i (i + 1) ++ post)) i = p := h2
        rw [h2] at e
        omega
      · exact h1
  · refine ⟨pre ++ [p], post, by rw [hps, List.append_assoc]; rfl, by simp [hpl], by omega, fun x hx => ?_, fun x hx => ?_⟩
    · rcases List.mem_append.1 hx with hx | hx
      · have := hpre x hx; omega
      · have : x = p := by simpa using hx
        omega
    · rcases hpost x hx with h3 | h3
      · exact .inl h3
      · exact .inr (by omega)
theorem AtRs.cons {t : Tre} {r : RT} {rs : List RT} {own m : Nat} (h : AtRs t (r :: rs) own m) : AtR t r m own ∧ AtRs t rs own (m + sizeR r) := by
  obtain ⟨pre, post, hps, hpl, hm, hpre, hpost⟩ := h
  rw [sizeRs] at hpost
  rw [psRs, List.append_assoc] at hps
  constructor
  · refine ⟨pre, _, hps, hpl, by omega, hpre, fun x hx => ?_⟩
    rcases List.mem_append.1 hx with hx | hx
    · rcases psRs_bd rs own (m + sizeR r) x hx with h2 | ⟨h2, _⟩
      · exact .inl (by omega)
      · exact .inr h2
    · rcases hpost x hx with h2 | h2
      · exact .inl (by omega)
      · exact .inr (by omega)
  · refine ⟨pre ++ psR r m own, post, by rw [hps, List.append_assoc], by rw [List.length_append, psR_len, hpl], by omega, fun x hx => ?_, fun x hx => ?_⟩
    · rcases List.mem_append.1 hx with hx | hx
      · have := hpre x hx; omega
      · rcases psR_bd r m own x hx with h3 | ⟨_, h3⟩ <;> omega
    · rcases hpost x hx with h3 | h3
      · exact .inl h3
      · exact .inr (by omega)
mutual
theorem kids_at {t : Tre} : ∀ (r : RT) (n : Nat) (p : Int), AtR t r n p → ∀ (i : Nat) (s : RT), (subR r)[i]? = some s → kidsL t.ps (n + i) = hdR s.kids (n + i + 1)
  | .node nm ks, n, p, h, i, s, hs => by
    rw [subR] at hs
    cases i with
    | zero =>
      have e : RT.node nm ks = s := by simpa using hs
      subst e
      exact h.kids.1
    | succ i =>
      rw [List.getElem?_cons_succ] at hs
      have := kidss_at ks n (n + 1) h.kids.2 i s hs
      rw [show n + (i + 1) = n + 1 + i by omega]; exact this
theorem kidss_at {t : Tre} : ∀ (rs : List RT) (own m : Nat), AtRs t rs own m → ∀ (i : Nat) (s : RT), (subRs rs)[i]? = some s → kidsL t.ps (m + i) = hdR s.kids (m + i + 1)
  | [], _, _, _, i, s, hs => by simp [subRs] at hs
  | r :: rs, own, m, h, i, s, hs => by
    rw [subRs] at hs
    by_cases hi : i < sizeR r
    · rw [List.getElem?_append_left (by rw [subR_len]; exact hi)] at hs
      exact kids_at r m own h.cons.1 i s hs
    · rw [List.getElem?_append_right (by rw [subR_len]; omega), subR_len] at hs
      have := kidss_at rs own (m + sizeR r) h.cons.2 (i - sizeR r) s hs
      rw [show m + sizeR r + (i - sizeR r) = m + i by omega] at this; exact this
end
theorem AtR.flat (r : RT) : AtR (flat r) r 0 (-1) := ⟨[], [], by simp [YtcbmbhghmfehpaaGreat.flat], rfl, by omega, fun x hx => by simp at hx, fun x hx => by simp at hx⟩
theorem kids_flat {r : RT} {i : Nat} {s : RT} (h : (subR r)[i]? = some s) : kidsL (flat r).ps i = hdR s.kids (i + 1) := by
  have := kids_at r 0 (-1) (AtR.flat r) i s h
  simpa using this
mutual
theorem psR_gi : ∀ (r : RT) (n : Nat) (p : Int) (j : Nat), 0 < j → j < sizeR r → (n : Int) ≤ gi (psR r n p) j ∧ gi (psR r n p) j < ((n + j : Nat) : Int)
  | .node nm ks, n, p, j, h0, hj => by
    rw [sizeR] at hj
    obtain ⟨k, rfl⟩ : ∃ k, j = k + 1 := ⟨j - 1, by omega⟩
    have h := psRs_gi ks n (n + 1) k (by omega) (by omega)
    have e : gi (psR (.node nm ks) n p) (k + 1) = gi (psRs ks n (n + 1)) k := by rw [psR]; simp [gi]
    rw [e]
    exact ⟨h.1, by have := h.2; omega⟩
theorem psRs_gi : ∀ (rs : List RT) (own n j : Nat), own < n → j < sizeRs rs → (own : Int) ≤ gi (psRs rs own n) j ∧ gi (psRs rs own n) j < ((n + j : Nat) : Int)
  | [], _, _, _, _, h => by simp [sizeRs] at h
  | r :: rs, own, n, j, ho, hj => by
    rw [sizeRs] at hj
    rw [psRs]
    by_cases hr : j < sizeR r
    · rw [gi_app_l _ (by rw [psR_len]; exact hr)]
      by_cases h0 : j = 0
      · subst h0
        obtain ⟨nm, ks⟩ := r
        have e : gi (psR (.node nm ks) n own) 0 = own := by rw [psR]; simp [gi]
        rw [e]; exact ⟨by omega, by omega⟩
      · have h := psR_gi r n own j (by omega) hr
        exact ⟨by omega, h.2⟩
    · have h := psRs_gi rs own (n + sizeR r) (j - sizeR r) (by omega) (by omega)
      have e := gi_app_r (psR r n own) (psRs rs own (n + sizeR r)) (j - sizeR r)
      rw [psR_len, show sizeR r + (j - sizeR r) = j by omega] at e
      rw [e]
      exact ⟨h.1, by have := h.2; omega⟩
end
theorem pOk_flat (r : RT) : pOkB (flat r).ps = true := by
  refine pOkB_all fun j hj => ?_
  rw [flat_ps] at hj
  show okp j (gi (psR r 0 (-1)) j) = true
  unfold okp
  by_cases h0 : j = 0
  · subst h0
    obtain ⟨nm, ks⟩ := r
    rw [if_pos rfl, psR]; rfl
  · rw [if_neg h0]
    have h := psR_gi r 0 (-1) j (by omega) hj
    have h1 : 0 ≤ gi (psR r 0 (-1)) j := by have := h.1; omega
    have h2 : gi (psR r 0 (-1)) j < (j : Int) := by have := h.2; omega
    simp [h1, h2]
/-- The names of the leaves. -/
def leafR (r : RT) : List ByteArray := (nsR r).filter fun s => decide (s.size ≠ 0)
structure GoodR (r : RT) : Prop where
  inn : ∀ s ∈ subR r, s.kids ≠ [] → s.nm.size = 0
  lf : ∀ s ∈ subR r, s.kids = [] → namedB s.nm.data.toList = true
  nd : (leafR r).Nodup
theorem named_size {s : ByteArray} (h : namedB s.data.toList = true) : s.size ≠ 0 := by
  intro e
  have : s.data.toList = [] := by
    apply List.eq_nil_of_length_eq_zero
    simpa using e
  rw [this] at h
  revert h; decide
theorem treeErr_flat {r : RT} (h : GoodR r) (hs : sizeR r ≤ 64) : treeErr (flat r) = 0 := by
  unfold treeErr
  rw [flat_ps, flat_ns, if_neg (by have := sizeR_pos r; omega), if_neg (by omega), if_neg (by simp), if_pos (pOk_flat r)]
  refine firstNZ_zero fun i hi => ?_
  have hi2 : i < (subR r).length := by rw [subR_len]; exact hi
  obtain ⟨s, hsi⟩ : ∃ s, (subR r)[i]? = some s := ⟨_, List.getElem?_eq_getElem hi2⟩
  have hmem : s ∈ subR r := List.mem_of_getElem? hsi
  have hk := kids_flat hsi
  have hnm : gs (flat r).ns i = s.nm := by
    show gs (nsR r) i = _
    rw [nsR_sub]; simp [gs, hsi]
  have hin := kids_isIn (pOk_flat r) i
  unfold nErr
  rw [hnm]
  by_cases hks : s.kids = []
  · have h1 : isIn (flat r).ps i = false := by
      cases hb : isIn (flat r).ps i with
      | false => rfl
      | true => exact absurd (by rw [hk, hks]; rfl) (hin.2 hb)
    rw [h1, if_neg (by simp), if_pos (h.lf s hmem hks)]
    have h2 : seenK (flat r).ns i = false := by
      rw [Bool.eq_false_iff]; intro e
      obtain ⟨j, hj, e⟩ := List.any_eq_true.1 e
      have hj : j < i := List.mem_range.1 hj
      have e : gs (nsR r) j = gs (nsR r) i := of_decide_eq_true e
      have hpw := List.pairwise_filter.1 h.nd
      have hln := nsR_len r
      have h3 := List.pairwise_iff_getElem.1 hpw j i (by omega) (by omega) hj
      have hgj : gs (nsR r) j = (nsR r)[j]'(by omega) := by simp [gs, show j < (nsR r).length by omega]
      have hgi : gs (nsR r) i = (nsR r)[i]'(by omega) := by simp [gs, show i < (nsR r).length by omega]
      rw [← hgj, ← hgi, e] at h3
      have h4 : gs (nsR r) i = s.nm := hnm
      have h5 := named_size (h.lf s hmem hks)
      rw [h4] at h3
      exact h3 (by simpa using h5) (by simpa using h5) rfl
    rw [h2]; rfl
  · have h1 : isIn (flat r).ps i = true := hin.1 (by
      rw [hk]
      cases hq : s.kids with
      | nil => exact absurd hq hks
      | cons a l => simp [hdR])
    rw [h1, if_pos rfl, if_pos (h.inn s hmem hks)]
end Go.Proofs.YtcbmbhghmfehpaaGreat
namespace Go.Proofs.YtcbmbhghmfehpaaGreat
theorem insR_perm (a : RT) : ∀ l, (insR a l).Perm (a :: l)
  | [] => List.Perm.refl _
  | b :: l => by
    rw [insR]
    split
    · exact List.Perm.refl _
    · exact ((insR_perm a l).cons b).trans (List.Perm.swap a b l)
theorem sortRs_perm : ∀ l : List RT, (sortRs l).Perm (l.map sortR)
  | [] => List.Perm.refl _
  | r :: rs => by
    rw [sortRs, List.map_cons]
    exact (insR_perm _ _).trans ((sortRs_perm rs).cons _)
theorem sortR_kids (r : RT) : (sortR r).kids = sortRs r.kids := by cases r; rfl
theorem sortR_nm (r : RT) : (sortR r).nm = r.nm := by cases r; rfl
theorem sortRs_nil {l : List RT} : sortRs l = [] ↔ l = [] := by
  constructor
  · intro h
    have := (sortRs_perm l).length_eq
    rw [h, List.length_map] at this
    exact List.eq_nil_of_length_eq_zero this.symm
  · rintro rfl; rfl
theorem subRs_perm {l l' : List RT} (h : l.Perm l') : (subRs l).Perm (subRs l') := by
  rw [subRs_flat, subRs_flat]
  exact h.flatMap_right _
mutual
theorem subR_sort : ∀ r : RT, (subR (sortR r)).Perm ((subR r).map sortR)
  | .node nm ks => by
    rw [sortR, subR, subR, List.map_cons]
    refine List.Perm.cons _ ?_
    exact (subRs_perm (sortRs_perm ks)).trans (subRs_sort ks)
theorem subRs_sort : ∀ rs : List RT, (subRs (rs.map sortR)).Perm ((subRs rs).map sortR)
  | [] => List.Perm.refl _
  | r :: rs => by
    rw [List.map_cons, subRs, subRs, List.map_append]
    exact (subR_sort r).append (subRs_sort rs)
end
theorem sizeR_sort (r : RT) : sizeR (sortR r) = sizeR r := by
  have := (subR_sort r).length_eq
  rw [List.length_map, subR_len, subR_len] at this; exact this
theorem nsR_sort (r : RT) : (nsR (sortR r)).Perm (nsR r) := by
  rw [nsR_sub, nsR_sub]
  refine ((subR_sort r).map RT.nm).trans ?_
  rw [List.map_map]
  have : (RT.nm ∘ sortR) = RT.nm := funext sortR_nm
  rw [this]
theorem leafR_sort (r : RT) : (leafR (sortR r)).Perm (leafR r) := (nsR_sort r).filter _
theorem GoodR.sort {r : RT} (h : GoodR r) : GoodR (sortR r) := by
  refine ⟨fun s hs hk => ?_, fun s hs hk => ?_, (leafR_sort r).nodup_iff.2 h.nd⟩
  · obtain ⟨q, hq, rfl⟩ := List.mem_map.1 ((subR_sort r).mem_iff.1 hs)
    rw [sortR_kids] at hk
    rw [sortR_nm]
    exact h.inn q hq (fun e => hk (sortRs_nil.2 e))
  · obtain ⟨q, hq, rfl⟩ := List.mem_map.1 ((subR_sort r).mem_iff.1 hs)
    rw [sortR_kids] at hk
    rw [sortR_nm]
    exact h.lf q hq (sortRs_nil.1 hk)
section
variable {F : Frs} {n : Nat} {rk : Nat → Nat}
/-- The parts of a forest's rose tree are the rose trees of the nodes. -/
theorem subR_toRF (h : Wf F n rk) : ∀ {d i : Nat}, i < n → rk i ≤ d → subR (toRF F rk i) = (nodesF F rk i).map (toRF F rk) := by
  intro d
  induction d with
  | zero =>
    intro i hi hd
    have hk : F.kids i = [] := by
      cases hk : F.kids i with
      | nil => rfl
      | cons k l => have := (h.kid i hi k (by rw [hk]; simp)).2; omega
    rw [nodesF_eq h hi, hk]
    have e : toRF F rk i = .node (F.nm i) [] := by rw [toRF_eq h hi, hk]; rfl
    rw [e, subR, List.flatMap_nil, List.map_cons, e]; rfl
  | succ d ih =>
    intro i hi hd
    rw [nodesF_eq h hi, List.map_cons, List.map_flatMap]
    have e := toRF_eq h hi
    conv => lhs; rw [e, subR, subRs_flat, List.flatMap_map]
    rw [← e]
    congr 1
    refine flatMap_congr' fun k hk => ?_
    have := h.kid i hi k hk
    exact ih this.1 (by omega)
theorem toRF_nm (h : Wf F n rk) {i : Nat} (hi : i < n) : (toRF F rk i).nm = F.nm i := by rw [toRF_eq h hi]; rfl
theorem toRF_kids (h : Wf F n rk) {i : Nat} (hi : i < n) : (toRF F rk i).kids = (F.kids i).map (toRF F rk) := by rw [toRF_eq h hi]; rfl
end
theorem mem_nodes_lt {t : Tre} (h : treeErr t = 0) {j : Nat} (hj : j ∈ nodesF (frT t) (rkT t) 0) : j < t.ps.length :=
  subF_lt (frT_arb h).wf (treeErr_zero h).1 (Nat.le_refl _) ((mem_nodesF (frT_arb h).wf (treeErr_zero h).1 (Nat.le_refl _)).1 hj)
theorem subR_toR {t : Tre} (h : treeErr t = 0) : subR (toR t) = (nodesF (frT t) (rkT t) 0).map (toRF (frT t) (rkT t)) := subR_toRF (frT_arb h).wf (treeErr_zero h).1 (Nat.le_refl _)
theorem sizeR_toR {t : Tre} (h : treeErr t = 0) : sizeR (toR t) ≤ 64 := by
  rw [← subR_len, subR_toR h, List.length_map]
  have h1 := nodup_le (nodesF_nodup (frT_arb h) (R := t.ps.length) (fun i _ => rkT_le t i) (treeErr_zero h).1 (Nat.le_refl _)) (fun x hx => mem_nodes_lt h hx)
  have := (treeErr_zero h).2.1; omega
theorem nsR_toR {t : Tre} (h : treeErr t = 0) : nsR (toR t) = (nodesF (frT t) (rkT t) 0).map (gs t.ns) := by
  rw [nsR_sub, subR_toR h, List.map_map]
  refine List.map_congr_left fun j hj => ?_
  exact toRF_nm (frT_arb h).wf (mem_nodes_lt h hj)
theorem nErr_inn {ps : List Int} {ns : List ByteArray} {i : Nat} (h : nErr ps ns i = 0) (hi : isIn ps i = true) : (gs ns i).size = 0 := by
  unfold nErr at h
  rw [if_pos hi] at h
  split at h
  · assumption
  · cases h
theorem nErr_leaf {ps : List Int} {ns : List ByteArray} {i : Nat} (h : nErr ps ns i = 0) (hi : isIn ps i = false) : namedB (gs ns i).data.toList = true ∧ seenK ns i = false := by
  unfold nErr at h
  rw [hi, if_neg (by simp)] at h
  split at h
  · rename_i h1
    refine ⟨h1, ?_⟩
    cases hs : seenK ns i with
    | false => rfl
    | true => rw [hs] at h; cases h
  · cases h
/-- The rose tree of a valid tree is good. -/
theorem good_toR {t : Tre} (h : treeErr t = 0) : GoodR (toR t) := by
  obtain ⟨hp, hl, hn, hok, he⟩ := treeErr_zero h
  have hwf := (frT_arb h).wf
  refine ⟨fun s hs hk => ?_, fun s hs hk => ?_, ?_⟩
  · rw [subR_toR h] at hs
    obtain ⟨j, hj, rfl⟩ := List.mem_map.1 hs
    have hjn := mem_nodes_lt h hj
    rw [toRF_kids hwf hjn] at hk
    rw [toRF_nm hwf hjn]
    have : isIn t.ps j = true := (kids_isIn hok j).1 (fun e => hk (by rw [frT_kids, e]; rfl))
    exact nErr_inn (he j hjn) this
  · rw [subR_toR h] at hs
    obtain ⟨j, hj, rfl⟩ := List.mem_map.1 hs
    have hjn := mem_nodes_lt h hj
    rw [toRF_kids hwf hjn] at hk
    rw [toRF_nm hwf hjn]
    have : isIn t.ps j = false := by
      cases hb : isIn t.ps j with
      | false => rfl
      | true => exact absurd (List.map_eq_nil_iff.1 hk) ((kids_isIn hok j).2 hb)
    exact (nErr_leaf (he j hjn) this).1
  · unfold leafR
    rw [nsR_toR h, List.filter_map]
    have hnd := nodesF_nodup (frT_arb h) (R := t.ps.length) (fun i _ => rkT_le t i) hp (Nat.le_refl _)
    refine List.pairwise_map.2 (List.Pairwise.imp_of_mem ?_ (List.Pairwise.filter _ hnd))
    intro a b ha hb hne e
    have ha' := List.mem_filter.1 ha
    have hb' := List.mem_filter.1 hb
    have han := mem_nodes_lt h ha'.1
    have hbn := mem_nodes_lt h hb'.1
    have leaf : ∀ i, i < t.ps.length → (gs t.ns i).size ≠ 0 → (frT t).kids i = [] := fun i hi hs => by
      rw [frT_kids]
      cases hk : kidsL t.ps i with
      | nil => rfl
      | cons x l => exact absurd (nErr_inn (he i hi) ((kids_isIn hok i).1 (by rw [hk]; simp))) hs
    exact hne ((frT_arb h).names a b han hbn (leaf a han (by simpa using ha'.2)) (leaf b hbn (by simpa using hb'.2)) e)
/-- The canonical tree of a valid tree is valid; its rose tree is the sorted one; it is its own canonical tree. -/
theorem canT_ok {t : Tre} (h : treeErr t = 0) : treeErr (canT t) = 0 := by
  rw [canT_flat h]
  exact treeErr_flat (good_toR h).sort (by rw [sizeR_sort]; exact sizeR_toR h)
theorem toR_canT {t : Tre} (h : treeErr t = 0) : toR (canT t) = sortR (toR t) := by rw [canT_flat h, toR_flat]
end Go.Proofs.YtcbmbhghmfehpaaGreat
namespace Go.Proofs.YtcbmbhghmfehpaaGreat
/-- Up from k, while above n. -/
def climb (ps : List Int) (n : Nat) : Nat → Nat → Nat
  | 0, k => k
  | d + 1, k => if n < k then climb ps n d (gi ps k).toNat else k
def hitB (ps : List Int) (n i : Nat) : Bool := decide (climb ps n i i = n)
theorem pOkB_par {ps : List Int} (h : pOkB ps = true) {k : Nat} (hk : k < ps.length) (h0 : 0 < k) : 0 ≤ gi ps k ∧ gi ps k < k := by
  have h1 := pOkB_at h hk
  unfold okp at h1
  rw [if_neg (by omega)] at h1
  simpa using h1
theorem climb_fuel {ps : List Int} (hp : pOkB ps = true) (n : Nat) : ∀ {d e k : Nat}, k < ps.length → k ≤ d → k ≤ e → climb ps n d k = climb ps n e k := by
  intro d
  induction d with
  | zero =>
    intro e k hl h1 h2
    obtain rfl : k = 0 := by omega
    cases e with
    | zero => rfl
    | succ e => simp [climb]
  | succ d ih =>
    intro e k hl h1 h2
    cases e with
    | zero =>
      obtain rfl : k = 0 := by omega
      simp [climb]
    | succ e =>
      rw [climb, climb]
      split
      · rename_i hnk
        have := pOkB_par hp hl (by omega)
        exact ih (by omega) (by omega) (by omega)
      · rfl
theorem climb_step {ps : List Int} (hp : pOkB ps = true) {n k : Nat} (hk : k < ps.length) (hn : n < k) : climb ps n k k = climb ps n (gi ps k).toNat (gi ps k).toNat := by
  have h1 := pOkB_par hp hk (by omega)
  obtain ⟨m, rfl⟩ : ∃ m, k = m + 1 := ⟨k - 1, by omega⟩
  rw [climb, if_pos hn]
  exact climb_fuel hp n (by omega) (by omega) (Nat.le_refl _)
theorem climb_stop {ps : List Int} {n k : Nat} (hn : ¬ n < k) : climb ps n k k = k := by
  cases k with
  | zero => rfl
  | succ k => rw [climb, if_neg hn]

/-- Node j lies below i: it is i, or lies below a child of i. -/
theorem hit_self {ps : List Int} (i : Nat) : hitB ps i i = true := by unfold hitB; rw [climb_stop (by omega)]; simp
theorem hit_le {ps : List Int} (_ : pOkB ps = true) {i : Nat} : ∀ {j : Nat}, j < ps.length → hitB ps i j = true → i ≤ j := by
  intro j
  induction j using Nat.strongRecOn with
  | ind j ih =>
    intro hj h
    by_cases e : i < j
    · omega
    · unfold hitB at h
      rw [climb_stop e] at h
      have : j = i := by simpa using h
      omega
theorem hit_step {ps : List Int} (hp : pOkB ps = true) {i j : Nat} (hj : j < ps.length) (hi : i < j) : hitB ps i j = hitB ps i (gi ps j).toNat := by
  unfold hitB; rw [climb_step hp hj hi]
theorem hit_kid {ps : List Int} (hp : pOkB ps = true) {i : Nat} : ∀ {j : Nat}, j < ps.length → (hitB ps i j = true ↔ j = i ∨ ∃ c, c < ps.length ∧ i < c ∧ gi ps c = (i : Int) ∧ hitB ps c j = true) := by
  intro j
  induction j using Nat.strongRecOn with
  | ind j ih =>
    intro hj
    by_cases e : i < j
    · have hpar := pOkB_par hp hj (by omega)
      have hpn : ((gi ps j).toNat : Int) = gi ps j := Int.toNat_of_nonneg hpar.1
      have hpl : (gi ps j).toNat < j := by omega
      rw [hit_step hp hj e, ih _ hpl (by omega)]
      constructor
      · rintro (h | ⟨c, h1, h2, h3, h4⟩)
        · exact .inr ⟨j, hj, e, by omega, hit_self j⟩
        · have := hit_le hp (show (gi ps j).toNat < ps.length by omega) h4
          exact .inr ⟨c, h1, h2, h3, by rw [hit_step hp hj (by omega)]; exact h4⟩
      · rintro (h | ⟨c, h1, h2, h3, h4⟩)
        · omega
        · have hcj := hit_le hp hj h4
          by_cases ec : c = j
          · subst ec; left; omega
          · right
            exact ⟨c, h1, h2, h3, by rw [hit_step hp hj (by omega)] at h4; exact h4⟩
    · unfold hitB
      rw [climb_stop e]
      constructor
      · intro h; left; simpa using h
      · rintro (h | ⟨c, h1, h2, h3, h4⟩)
        · simpa using h
        · have := hit_le hp hj h4; omega
end Go.Proofs.YtcbmbhghmfehpaaGreat
namespace Go.Proofs.YtcbmbhghmfehpaaGreat
theorem lookup_putS {l : List (ByteArray × Value)} {k j : ByteArray} {v : Value} : (putS l k v).lookup j = if j = k then some v else l.lookup j := by
  unfold putS
  split
  · rename_i h
    have h0 : l.lookup k = none := by simpa using h
    rw [List.lookup_append]
    by_cases e : j = k
    · subst e; rw [if_pos rfl, h0]; simp [List.lookup, ba_self]
    · rw [if_neg e]
      have : List.lookup j [(k, v)] = none := by simp [List.lookup, ba_ne e]
      rw [this]; simp
  · rename_i h
    have h0 : (l.lookup k).isSome := by
      cases hl : l.lookup k with
      | none => rw [hl] at h; exact absurd rfl h
      | some x => rfl
    clear h
    induction l with
    | nil => cases h0
    | cons y l ih =>
      obtain ⟨y1, y2⟩ := y
      rw [List.map_cons]
      by_cases e1 : y1 = k
      · subst e1
        rw [if_pos rfl, List.lookup_cons]
        by_cases e : j = y1
        · subst e; rw [ba_self, if_pos rfl]
        · rw [ba_ne e, if_neg e, List.lookup_cons, ba_ne e]
          have hm : ∀ l : List (ByteArray × Value), List.lookup j (l.map fun x => if x.1 = y1 then (y1, v) else x) = List.lookup j l := by
            intro l
            induction l with
            | nil => rfl
            | cons z l ihl =>
              obtain ⟨z1, z2⟩ := z
              rw [List.map_cons]
              by_cases ez : z1 = y1
              · subst ez; rw [if_pos rfl, List.lookup_cons, ba_ne e, List.lookup_cons, ba_ne e]; exact ihl
              · rw [if_neg ez, List.lookup_cons, List.lookup_cons, ihl]
          exact hm l
      · rw [if_neg e1, List.lookup_cons, List.lookup_cons]
        rw [List.lookup_cons, ba_ne (fun h => e1 h.symm)] at h0
        by_cases e : j = y1
        · subst e; rw [ba_self, if_neg e1]
        · rw [ba_ne e]; exact ih h0
end Go.Proofs.YtcbmbhghmfehpaaGreat
namespace Go.Proofs.YtcbmbhghmfehpaaGreat
def Tre.app (t : Tre) (r : RT) (p : Int) : Tre := ⟨t.ps ++ psR r t.ps.length p, t.ns ++ nsR r⟩
end Go.Proofs.YtcbmbhghmfehpaaGreat
namespace Go.Proofs.YtcbmbhghmfehpaaGreat
end Go.Proofs.YtcbmbhghmfehpaaGreat
namespace Go.Proofs.YtcbmbhghmfehpaaGreat
def bitsN (n x : Nat) : List Nat := (List.range n).filter fun i => x.testBit i
theorem mem_bitsN {n x i : Nat} : i ∈ bitsN n x ↔ i < n ∧ x.testBit i = true := by unfold bitsN; rw [List.mem_filter, List.mem_range]
structure Lam (inner : List Nat) (n : Nat) : Prop where
  u : ∀ y ∈ inner, U64 y
  sub : ∀ y ∈ inner, ∀ i, y.testBit i = true → i < n
  two : ∀ y ∈ inner, 2 ≤ (bitsN n y).length
  lam : ∀ y ∈ inner, ∀ z ∈ inner, withinB y z = true ∨ withinB z y = true ∨ y &&& z = 0
  nd : inner.Nodup
/-- A part as it should be: inner parts without a name, leaves named, not one child. -/
def PartOk (s : RT) : Prop := (s.kids ≠ [] → s.nm.size = 0) ∧ (s.kids = [] → namedB s.nm.data.toList = true) ∧ s.kids.length ≠ 1
def fltN (l : List ByteArray) : List ByteArray := l.filter fun s => decide (s.size ≠ 0)
theorem fltN_app (a b : List ByteArray) : fltN (a ++ b) = fltN a ++ fltN b := List.filter_append _ _
theorem leafR_node {nm : ByteArray} {ks : List RT} (h : nm.size = 0) : leafR (.node nm ks) = ks.flatMap leafR := by
  have key : ∀ ks : List RT, fltN (nsRs ks) = ks.flatMap leafR := by
    intro ks
    induction ks with
    | nil => rfl
    | cons r rs ih => rw [nsRs, fltN_app, ih, List.flatMap_cons]; rfl
  show fltN (nsR _) = _
  rw [nsR, ← key]
  unfold fltN
  rw [List.filter_cons_of_neg (by simp [h])]
theorem leafR_leaf {nm : ByteArray} (h : nm.size ≠ 0) : leafR (.node nm []) = [nm] := by
  show List.filter _ (nsR _) = _
  rw [nsR, nsRs, List.filter_cons_of_pos (by simpa using h)]; rfl
end Go.Proofs.YtcbmbhghmfehpaaGreat
namespace Go.Proofs.YtcbmbhghmfehpaaGreat
theorem innK_nodup (l : List Grp) (all : Nat) : ∀ k, (innK l all k).Nodup
  | 0 => List.nodup_nil
  | k + 1 => by
    have ih := innK_nodup l all k
    unfold innK
    split
    · rename_i hc
      rw [List.nodup_append]
      refine ⟨ih, by simp, fun a ha b hb e => ?_⟩
      obtain rfl : b = ofS (gg l k).src := by simpa using hb
      subst e; exact hc.2.2 ha
    · exact ih
/-- What groups have that Tree does not refuse. -/
structure ShOk (names : List ByteArray) (l : List Grp) : Prop where
  pos : 0 < names.length
  le : names.length ≤ 32
  nm : ∀ k, k < names.length → namedB (gs names k).data.toList = true
  nd : ∀ j k, j < k → k < names.length → gs names k ≠ gs names j
  gc : gcErr l = 0
  far : ∀ k, k < l.length → ∀ x ∈ (gg l k).src, x < names.length
  cf : ∀ i k, i < k → k < l.length → confB (ofS (gg l i).src) (ofS (gg l k).src) = false
section
variable {names : List ByteArray} {l : List Grp}
theorem ShOk.small (h : ShOk names l) {k : Nat} (hk : k < l.length) : Small (gg l k).src := (srcOk_small ((gcErr_zero h.gc).2 k hk).2.2.2).1
theorem ShOk.bits (h : ShOk names l) {k : Nat} (hk : k < l.length) {i : Nat} : (ofS (gg l k).src).testBit i = true ↔ (i : Int) ∈ (gg l k).src := testBit_ofS (h.small hk) i
theorem two_bits {n x a b : Nat} (hab : a ≠ b) (ha : a ∈ bitsN n x) (hb : b ∈ bitsN n x) : 2 ≤ (bitsN n x).length := by
  have h1 : [a, b].Nodup := by simp [hab]
  have h2 : [a, b] ⊆ bitsN n x := fun y hy => by
    rcases List.mem_cons.1 hy with e | hy
    · rw [e]; exact ha
    · have e : y = b := by simpa using hy
      rw [e]; exact hb
  have := h1.length_le_of_subset h2
  simpa using this
theorem conf_cases {a b : Nat} (h : confB a b = false) : withinB a b = true ∨ withinB b a = true ∨ a &&& b = 0 := by
  unfold confB at h
  by_cases e : a &&& b = 0
  · exact .inr (.inr e)
  · cases h1 : withinB a b
    · cases h2 : withinB b a
      · rw [h1, h2] at h; simp [e] at h
      · exact .inr (.inl rfl)
    · exact .inl rfl
theorem ShOk.lam (h : ShOk names l) : Lam (innL l (allN names.length)) names.length := by
  refine ⟨fun y hy => ?_, fun y hy i hi => ?_, fun y hy => ?_, fun y hy z hz => ?_, innK_nodup _ _ _⟩
  · obtain ⟨j, hj, rfl, _⟩ := innK_mem hy
    exact ofS_u64 (h.small hj)
  · obtain ⟨j, hj, rfl, _⟩ := innK_mem hy
    have := h.far j hj _ ((h.bits hj).1 hi); omega
  · obtain ⟨j, hj, rfl, h1, _⟩ := innK_mem hy
    obtain ⟨hs, _, hm⟩ := srcOk_small ((gcErr_zero h.gc).2 j hj).2.2.2
    obtain ⟨a, ha, _⟩ := small_mem hs (gi_mem (l := (gg l j).src) (k := 0) (by omega))
    obtain ⟨b, hb, _⟩ := small_mem hs (gi_mem (l := (gg l j).src) (k := 1) h1)
    have h2 := hm 1 (by omega) h1
    have hma : (a : Int) ∈ (gg l j).src := by rw [← ha]; exact gi_mem (by omega)
    have hmb : (b : Int) ∈ (gg l j).src := by rw [← hb]; exact gi_mem h1
    refine two_bits (a := a) (b := b) (by
      have e : (1 : Nat) - 1 = 0 := rfl
      rw [e, ha, hb] at h2; omega) (mem_bitsN.2 ⟨?_, (h.bits hj).2 hma⟩) (mem_bitsN.2 ⟨?_, (h.bits hj).2 hmb⟩)
    · have := h.far j hj _ hma; omega
    · have := h.far j hj _ hmb; omega
  · obtain ⟨j, hj, rfl, _⟩ := innK_mem hy
    obtain ⟨k, hk, rfl, _⟩ := innK_mem hz
    rcases Nat.lt_trichotomy j k with e | e | e
    · exact conf_cases (h.cf j k e hk)
    · subst e
      exact .inl ((withinB_iff (ofS_u64 (h.small hj)) (ofS_u64 (h.small hj))).2 fun i hi => hi)
    · rcases conf_cases (h.cf k j e hj) with q | q | q
      · exact .inr (.inl q)
      · exact .inl q
      · exact .inr (.inr (by rw [Nat.and_comm]; exact q))
theorem range_gs (names : List ByteArray) : (List.range names.length).map (gs names) = names := by
  refine List.ext_getElem (by simp) fun i h1 h2 => ?_
  simp [gs, h2]
end
end Go.Proofs.YtcbmbhghmfehpaaGreat
namespace Go.Proofs.YtcbmbhghmfehpaaGreat
/-- A sorted list of sources is the list of the bits of its set. -/
theorem src_bits {l : List Int} {n : Nat} (h : srcOk l = true) (hn : ∀ x ∈ l, x < n) : l = (bitsN n (ofS l)).map Int.ofNat := by
  obtain ⟨hs, _, hm⟩ := srcOk_small h
  have asc : ∀ k, k < l.length → ∀ j, j < k → gi l j < gi l k := by
    intro k
    induction k with
    | zero => intro _ j hj; omega
    | succ k ih =>
      intro hk j hj
      have h1 := hm (k + 1) (by omega) hk
      rw [Nat.add_sub_cancel] at h1
      by_cases e : j = k
      · subst e; exact h1
      · have := ih (by omega) j (by omega); omega
  have p1 : l.Pairwise (· < ·) := by
    rw [List.pairwise_iff_getElem]
    intro i j hi hj hij
    have := asc j hj i hij
    simpa [gi, hi, hj] using this
  have p2 : ((bitsN n (ofS l)).map Int.ofNat).Pairwise (· < ·) := by
    rw [List.pairwise_map]
    refine (List.Pairwise.filter _ List.pairwise_lt_range).imp fun h => ?_
    exact Int.ofNat_lt.2 h
  have hmem : ∀ x, x ∈ l ↔ x ∈ (bitsN n (ofS l)).map Int.ofNat := by
    intro x
    constructor
    · intro hx
      obtain ⟨i, rfl, _⟩ := small_mem hs hx
      exact List.mem_map.2 ⟨i, mem_bitsN.2 ⟨by have := hn _ hx; omega, (testBit_ofS hs i).2 hx⟩, rfl⟩
    · intro hx
      obtain ⟨i, hi, rfl⟩ := List.mem_map.1 hx
      exact (testBit_ofS hs i).1 (mem_bitsN.1 hi).2
  have nd : ∀ {q : List Int}, q.Pairwise (· < ·) → q.Nodup := fun h => h.imp fun h => by omega
  have hp : l.Perm ((bitsN n (ofS l)).map Int.ofNat) := (List.perm_ext_iff_of_nodup (nd p1) (nd p2)).2 hmem
  exact List.Perm.eq_of_pairwise (le := fun a b : Int => a < b) (fun a b _ _ h1 h2 => by omega) p1 p2 hp
theorem bits_asc (n x : Nat) : (bitsN n x).Pairwise (· < ·) := List.Pairwise.filter _ List.pairwise_lt_range
end Go.Proofs.YtcbmbhghmfehpaaGreat
namespace Go.Proofs
open Go.Shelf
end Go.Proofs
namespace Go.Proofs.YtcbmbhghmfehpaaGreat
open Go.RowKit Go.Sort Go.Shelf Go.Deep
end Go.Proofs.YtcbmbhghmfehpaaGreat
namespace Go.Proofs.YtcbmbhghmfehpaaGreat
open Go.RowKit Go.Deep
end Go.Proofs.YtcbmbhghmfehpaaGreat
namespace Go.Proofs.YtcbmbhghmfehpaaGreat
open Go.RowKit Go.Deep
end Go.Proofs.YtcbmbhghmfehpaaGreat
namespace Go.Proofs.YtcbmbhghmfehpaaGreat
section
variable {names : List ByteArray} {l : List Grp}
theorem PartOk.sort {r : RT} (h : ∀ s ∈ subR r, PartOk s) : ∀ s ∈ subR (sortR r), PartOk s := by
  intro s hs
  obtain ⟨q, hq, rfl⟩ := List.mem_map.1 ((subR_sort r).mem_iff.1 hs)
  obtain ⟨h1, h2, h3⟩ := h q hq
  refine ⟨fun e => ?_, fun e => ?_, ?_⟩
  · rw [sortR_nm]; rw [sortR_kids] at e; exact h1 (fun e2 => e (sortRs_nil.2 e2))
  · rw [sortR_nm]; rw [sortR_kids] at e; exact h2 (sortRs_nil.1 e)
  · rw [sortR_kids, (sortRs_perm q.kids).length_eq, List.length_map]; exact h3
end
end Go.Proofs.YtcbmbhghmfehpaaGreat
namespace Go.Proofs.YtcbmbhghmfehpaaGreat
open Go.RowKit Go.Shelf Go.Deep
section
variable {P : Program} {C : World → Prop}
end
end Go.Proofs.YtcbmbhghmfehpaaGreat
namespace Go.Proofs.YtcbmbhghmfehpaaGreat
open Go.RowKit Go.Shelf Go.Deep
/-- The array of sets, in block B. -/
structure OwW (w0 wr : World) (B n : Nat) (o : List Nat) : Prop where
  up : Up w0 wr
  row : wr.rowIs B 97 n (fun j => .int .u64 (gn o j))
  lo : w0.heap.size ≤ B
theorem gn_zeros (n j : Nat) : gn (List.replicate n 0) j = 0 := by
  unfold gn
  by_cases h : j < n
  · simp [h]
  · simp [h]
theorem gn_set {o : List Nat} {q x : Nat} (hq : q < o.length) (j : Nat) : gn (o.set q x) j = if j = q then x else gn o j := by
  unfold gn
  rw [List.getD_eq_getElem?_getD, List.getElem?_set, List.getD_eq_getElem?_getD]
  by_cases e : j = q
  · subst e; rw [if_pos rfl, if_pos hq, if_pos rfl]; rfl
  · rw [if_neg (fun h => e h.symm), if_neg e]
theorem OwW.start (w0 : World) (n : Nat) : OwW w0 (w0.alloc (.cells (madeCells #[.int .u64 0] n) 97)) w0.heap.size n (List.replicate n 0) :=
  ⟨Up.alloc _ _, (World.rowIs_made w0 _ n _).congr fun i _ => by simp [gn_zeros], Nat.le_refl _⟩
theorem OwW.set {w0 wr : World} {B n q x : Nat} {o : List Nat} (h : OwW w0 wr B n o) (hq : q < o.length) : OwW w0 (wr.setCell ⟨B, q, none⟩ (.int .u64 x)) B n (o.set q x) :=
  ⟨Below.setCell (p := ⟨B, q, none⟩) h.up h.lo _, (h.row.set q _).congr fun i _ => by
    rw [gn_set hq]
    by_cases e : i = q
    · simp [e]
    · simp [e], h.lo⟩
theorem OwW.drewN {w0 wr : World} {B n : Nat} {o : List Nat} (h : OwW w0 wr B n o) (m : Nat) : OwW w0 (wr.drewN m) B n o :=
  ⟨h.up.trans (Up.drewN _ _), h.row, h.lo⟩
end Go.Proofs.YtcbmbhghmfehpaaGreat
