/- Rose trees: all parts of one; when its numbering is a valid tree. Sorting rose trees keeps the parts; sorted twice is sorted once; the rose tree of a valid tree is good. The plain law of SharederrorPairs: sets as lists; the closures of the law. The tree that grow makes is a rose tree, numbered depth first. -/
import Derived.Test.YtkfndaebmbnmaaaQ20
import Derived.Test.YtkfndaebmbnmaaaQ11
import Derived.Test.YtkfndaebmbnmaaaQ19
import Derived.Test.YtkfndaebmbnmaaaQ18
namespace Go.Proofs.Ytkfndaebmbnmaaa
mutual
/-- All parts, depth first. -/
def subR : RT → List RT
  | .node nm ks => .node nm ks :: subRs ks
def subRs : List RT → List RT
  | [] => []
  | r :: rs => subR r ++ subRs rs
end
mutual
theorem subR_len : ∀ r : RT, (subR r).length = sizeR r
  | .node _ ks => by rw [subR, sizeR, List.length_cons, subRs_len ks]; omega
theorem subRs_len : ∀ rs : List RT, (subRs rs).length = sizeRs rs
  | [] => rfl
  | r :: rs => by rw [subRs, sizeRs, List.length_append, subR_len r, subRs_len rs]
end
mutual
theorem nsR_sub : ∀ r : RT, nsR r = (subR r).map RT.nm
  | .node nm ks => by rw [subR, nsR, List.map_cons, nsRs_sub ks]; rfl
theorem nsRs_sub : ∀ rs : List RT, nsRs rs = (subRs rs).map RT.nm
  | [] => rfl
  | r :: rs => by rw [subRs, nsRs, List.map_append, nsR_sub r, nsRs_sub rs]
end
theorem subRs_flat (rs : List RT) : subRs rs = rs.flatMap subR := by
  induction rs with
  | nil => rfl
  | cons r rs ih => rw [subRs, List.flatMap_cons, ih]
/-- The rose tree stands at n in the tree, its parent is p. -/
def AtR (t : Tre) (r : RT) (n : Nat) (p : Int) : Prop := ∃ pre post, t.ps = pre ++ (psR r n p ++ post) ∧ pre.length = n ∧ p < n ∧ (∀ x ∈ pre, x < (n : Int)) ∧ (∀ x ∈ post, x < (n : Int) ∨ ((n + sizeR r : Nat) : Int) ≤ x)
def AtRs (t : Tre) (rs : List RT) (own m : Nat) : Prop := ∃ pre post, t.ps = pre ++ (psRs rs own m ++ post) ∧ pre.length = m ∧ own < m ∧ (∀ x ∈ pre, x < (m : Int)) ∧ (∀ x ∈ post, x < (own : Int) ∨ ((m + sizeRs rs : Nat) : Int) ≤ x)
theorem AtR.kids {t : Tre} {nm : ByteArray} {ks : List RT} {n : Nat} {p : Int} (h : AtR t (.node nm ks) n p) : kidsL t.ps n = hdR ks (n + 1) ∧ AtRs t ks n (n + 1) := by
  obtain ⟨pre, post, hps, hpl, hp, hpre, hpost⟩ := h
  rw [sizeR] at hpost
  rw [psR, List.cons_append] at hps
  constructor
  · rw [kidsL_kf]
    · rw [hps, kf_app, kf_none n pre 0 (fun x hx e => by have := hpre x hx; omega), List.nil_append, kf, if_neg (by omega), kf_app, hpl, Nat.zero_add, kf_psRs n ks (n + 1) (by omega), psRs_len]
      rw [kf_none n post _ (fun x hx e => by rcases hpost x hx with h1 | h1 <;> omega), List.append_nil]
    · intro i hi e
      rw [hps] at e
      rcases Nat.lt_trichotomy i n with h1 | h1 | h1
      · rw [gi_app_l _ (by omega)] at e
        have := hpre _ (gi_mem (l := pre) (k := i) (by omega)); omega
      · subst h1
        have h2 := gi_app_r pre (p :: (psRs ks i (i + 1) ++ post)) 0
        rw [hpl] at h2
        have h2 : gi (pre ++ p :: (psRs ks i (i + 1) ++ post)) i = p := h2
        rw [h2] at e
        omega
      · exact h1
  · refine ⟨pre ++ [p], post, by rw [hps, List.append_assoc]; rfl, by simp [hpl], by omega, fun x hx => ?_, fun x hx => ?_⟩
    · rcases List.mem_append.1 hx with hx | hx
      · have := hpre x hx; omega
      · have : x = p := by simpa using hx
        omega
    · rcases hpost x hx with h3 | h3
      · exact .inl h3
      · exact .inr (by omega)
theorem AtRs.cons {t : Tre} {r : RT} {rs : List RT} {own m : Nat} (h : AtRs t (r :: rs) own m) : AtR t r m own ∧ AtRs t rs own (m + sizeR r) := by
  obtain ⟨pre, post, hps, hpl, hm, hpre, hpost⟩ := h
  rw [sizeRs] at hpost
  rw [psRs, List.append_assoc] at hps
  constructor
  · refine ⟨pre, _, hps, hpl, by omega, hpre, fun x hx => ?_⟩
    rcases List.mem_append.1 hx with hx | hx
    · rcases psRs_bd rs own (m + sizeR r) x hx with h2 | ⟨h2, _⟩
      · exact .inl (by omega)
      · exact .inr h2
    · rcases hpost x hx with h2 | h2
      · exact .inl (by omega)
      · exact .inr (by omega)
  · refine ⟨pre ++ psR r m own, post, by rw [hps, List.append_assoc], by rw [List.length_append, psR_len, hpl], by omega, fun x hx => ?_, fun x hx => ?_⟩
    · rcases List.mem_append.1 hx with hx | hx
      · have := hpre x hx; omega
      · rcases psR_bd r m own x hx with h3 | ⟨_, h3⟩ <;> omega
    · rcases hpost x hx with h3 | h3
      · exact .inl h3
      · exact .inr (by omega)
mutual
theorem kids_at {t : Tre} : ∀ (r : RT) (n : Nat) (p : Int), AtR t r n p → ∀ (i : Nat) (s : RT), (subR r)[i]? = some s → kidsL t.ps (n + i) = hdR s.kids (n + i + 1)
  | .node nm ks, n, p, h, i, s, hs => by
    rw [subR] at hs
    cases i with
    | zero =>
      have e : RT.node nm ks = s := by simpa using hs
      subst e
      exact h.kids.1
    | succ i =>
      rw [List.getElem?_cons_succ] at hs
      have := kidss_at ks n (n + 1) h.kids.2 i s hs
      rw [show n + (i + 1) = n + 1 + i by omega]; exact this
theorem kidss_at {t : Tre} : ∀ (rs : List RT) (own m : Nat), AtRs t rs own m → ∀ (i : Nat) (s : RT), (subRs rs)[i]? = some s → kidsL t.ps (m + i) = hdR s.kids (m + i + 1)
  | [], _, _, _, i, s, hs => by simp [subRs] at hs
  | r :: rs, own, m, h, i, s, hs => by
    rw [subRs] at hs
    by_cases hi : i < sizeR r
    · rw [List.getElem?_append_left (by rw [subR_len]; exact hi)] at hs
      exact kids_at r m own h.cons.1 i s hs
    · rw [List.getElem?_append_right (by rw [subR_len]; omega), subR_len] at hs
      have := kidss_at rs own (m + sizeR r) h.cons.2 (i - sizeR r) s hs
      rw [show m + sizeR r + (i - sizeR r) = m + i by omega] at this; exact this
end
theorem AtR.flat (r : RT) : AtR (flat r) r 0 (-1) := ⟨[], [], by simp [Ytkfndaebmbnmaaa.flat], rfl, by omega, fun x hx => by simp at hx, fun x hx => by simp at hx⟩
theorem kids_flat {r : RT} {i : Nat} {s : RT} (h : (subR r)[i]? = some s) : kidsL (flat r).ps i = hdR s.kids (i + 1) := by
  have := kids_at r 0 (-1) (AtR.flat r) i s h
  simpa using this
mutual
theorem psR_gi : ∀ (r : RT) (n : Nat) (p : Int) (j : Nat), 0 < j → j < sizeR r → (n : Int) ≤ gi (psR r n p) j ∧ gi (psR r n p) j < ((n + j : Nat) : Int)
  | .node nm ks, n, p, j, h0, hj => by
    rw [sizeR] at hj
    obtain ⟨k, rfl⟩ : ∃ k, j = k + 1 := ⟨j - 1, by omega⟩
    have h := psRs_gi ks n (n + 1) k (by omega) (by omega)
    have e : gi (psR (.node nm ks) n p) (k + 1) = gi (psRs ks n (n + 1)) k := by rw [psR]; simp [gi]
    rw [e]
    exact ⟨h.1, by have := h.2; omega⟩
theorem psRs_gi : ∀ (rs : List RT) (own n j : Nat), own < n → j < sizeRs rs → (own : Int) ≤ gi (psRs rs own n) j ∧ gi (psRs rs own n) j < ((n + j : Nat) : Int)
  | [], _, _, _, _, h => by simp [sizeRs] at h
  | r :: rs, own, n, j, ho, hj => by
    rw [sizeRs] at hj
    rw [psRs]
    by_cases hr : j < sizeR r
    · rw [gi_app_l _ (by rw [psR_len]; exact hr)]
      by_cases h0 : j = 0
      · subst h0
        obtain ⟨nm, ks⟩ := r
        have e : gi (psR (.node nm ks) n own) 0 = own := by rw [psR]; simp [gi]
        rw [e]; exact ⟨by omega, by omega⟩
      · have h := psR_gi r n own j (by omega) hr
        exact ⟨by omega, h.2⟩
    · have h := psRs_gi rs own (n + sizeR r) (j - sizeR r) (by omega) (by omega)
      have e := gi_app_r (psR r n own) (psRs rs own (n + sizeR r)) (j - sizeR r)
      rw [psR_len, show sizeR r + (j - sizeR r) = j by omega] at e
      rw [e]
      exact ⟨h.1, by have := h.2; omega⟩
end
theorem pOk_flat (r : RT) : pOkB (flat r).ps = true := by
  refine pOkB_all fun j hj => ?_
  rw [flat_ps] at hj
  show okp j (gi (psR r 0 (-1)) j) = true
  unfold okp
  by_cases h0 : j = 0
  · subst h0
    obtain ⟨nm, ks⟩ := r
    rw [if_pos rfl, psR]; rfl
  · rw [if_neg h0]
    have h := psR_gi r 0 (-1) j (by omega) hj
    have h1 : 0 ≤ gi (psR r 0 (-1)) j := by have := h.1; omega
    have h2 : gi (psR r 0 (-1)) j < (j : Int) := by have := h.2; omega
    simp [h1, h2]
/-- The names of the leaves. -/
def leafR (r : RT) : List ByteArray := (nsR r).filter fun s => decide (s.size ≠ 0)
structure GoodR (r : RT) : Prop where
  inn : ∀ s ∈ subR r, s.kids ≠ [] → s.nm.size = 0
  lf : ∀ s ∈ subR r, s.kids = [] → namedB s.nm.data.toList = true
  nd : (leafR r).Nodup
theorem named_size {s : ByteArray} (h : namedB s.data.toList = true) : s.size ≠ 0 := by
  intro e
  have : s.data.toList = [] := by
    apply List.eq_nil_of_length_eq_zero
    simpa using e
  rw [this] at h
  revert h; decide
theorem treeErr_flat {r : RT} (h : GoodR r) (hs : sizeR r ≤ 64) : treeErr (flat r) = 0 := by
  unfold treeErr
  rw [flat_ps, flat_ns, if_neg (by have := sizeR_pos r; omega), if_neg (by omega), if_neg (by simp), if_pos (pOk_flat r)]
  refine firstNZ_zero fun i hi => ?_
  have hi2 : i < (subR r).length := by rw [subR_len]; exact hi
  obtain ⟨s, hsi⟩ : ∃ s, (subR r)[i]? = some s := ⟨_, List.getElem?_eq_getElem hi2⟩
  have hmem : s ∈ subR r := List.mem_of_getElem? hsi
  have hk := kids_flat hsi
  have hnm : gs (flat r).ns i = s.nm := by
    show gs (nsR r) i = _
    rw [nsR_sub]; simp [gs, hsi]
  have hin := kids_isIn (pOk_flat r) i
  unfold nErr
  rw [hnm]
  by_cases hks : s.kids = []
  · have h1 : isIn (flat r).ps i = false := by
      cases hb : isIn (flat r).ps i with
      | false => rfl
      | true => exact absurd (by rw [hk, hks]; rfl) (hin.2 hb)
    rw [h1, if_neg (by simp), if_pos (h.lf s hmem hks)]
    have h2 : seenK (flat r).ns i = false := by
      rw [Bool.eq_false_iff]; intro e
      obtain ⟨j, hj, e⟩ := List.any_eq_true.1 e
      have hj : j < i := List.mem_range.1 hj
      have e : gs (nsR r) j = gs (nsR r) i := of_decide_eq_true e
      have hpw := List.pairwise_filter.1 h.nd
      have hln := nsR_len r
      have h3 := List.pairwise_iff_getElem.1 hpw j i (by omega) (by omega) hj
      have hgj : gs (nsR r) j = (nsR r)[j]'(by omega) := by simp [gs, show j < (nsR r).length by omega]
      have hgi : gs (nsR r) i = (nsR r)[i]'(by omega) := by simp [gs, show i < (nsR r).length by omega]
      rw [← hgj, ← hgi, e] at h3
      have h4 : gs (nsR r) i = s.nm := hnm
      have h5 := named_size (h.lf s hmem hks)
      rw [h4] at h3
      exact h3 (by simpa using h5) (by simpa using h5) rfl
    rw [h2]; rfl
  · have h1 : isIn (flat r).ps i = true := hin.1 (by
      rw [hk]
      cases hq : s.kids with
      | nil => exact absurd hq hks
      | cons a l => simp [hdR])
    rw [h1, if_pos rfl, if_pos (h.inn s hmem hks)]
end Go.Proofs.Ytkfndaebmbnmaaa
namespace Go.Proofs.Ytkfndaebmbnmaaa
theorem insR_perm (a : RT) : ∀ l, (insR a l).Perm (a :: l)
  | [] => List.Perm.refl _
  | b :: l => by
    rw [insR]
    split
    · exact List.Perm.refl _
    · exact ((insR_perm a l).cons b).trans (List.Perm.swap a b l)
theorem sortRs_perm : ∀ l : List RT, (sortRs l).Perm (l.map sortR)
  | [] => List.Perm.refl _
  | r :: rs => by
    rw [sortRs, List.map_cons]
    exact (insR_perm _ _).trans ((sortRs_perm rs).cons _)
theorem sortR_kids (r : RT) : (sortR r).kids = sortRs r.kids := by cases r; rfl
theorem sortR_nm (r : RT) : (sortR r).nm = r.nm := by cases r; rfl
theorem sortRs_nil {l : List RT} : sortRs l = [] ↔ l = [] := by
  constructor
  · intro h
    have := (sortRs_perm l).length_eq
    rw [h, List.length_map] at this
    exact List.eq_nil_of_length_eq_zero this.symm
  · rintro rfl; rfl
theorem subRs_perm {l l' : List RT} (h : l.Perm l') : (subRs l).Perm (subRs l') := by
  rw [subRs_flat, subRs_flat]
  exact h.flatMap_right _
mutual
theorem subR_sort : ∀ r : RT, (subR (sortR r)).Perm ((subR r).map sortR)
  | .node nm ks => by
    rw [sortR, subR, subR, List.map_cons]
    refine List.Perm.cons _ ?_
    exact (subRs_perm (sortRs_perm ks)).trans (subRs_sort ks)
theorem subRs_sort : ∀ rs : List RT, (subRs (rs.map sortR)).Perm ((subRs rs).map sortR)
  | [] => List.Perm.refl _
  | r :: rs => by
    rw [List.map_cons, subRs, subRs, List.map_append]
    exact (subR_sort r).append (subRs_sort rs)
end
theorem sizeR_sort (r : RT) : sizeR (sortR r) = sizeR r := by
  have := (subR_sort r).length_eq
  rw [List.length_map, subR_len, subR_len] at this; exact this
theorem nsR_sort (r : RT) : (nsR (sortR r)).Perm (nsR r) := by
  rw [nsR_sub, nsR_sub]
  refine ((subR_sort r).map RT.nm).trans ?_
  rw [List.map_map]
  have : (RT.nm ∘ sortR) = RT.nm := funext sortR_nm
  rw [this]
theorem leafR_sort (r : RT) : (leafR (sortR r)).Perm (leafR r) := (nsR_sort r).filter _
theorem GoodR.sort {r : RT} (h : GoodR r) : GoodR (sortR r) := by
  refine ⟨fun s hs hk => ?_, fun s hs hk => ?_, (leafR_sort r).nodup_iff.2 h.nd⟩
  · obtain ⟨q, hq, rfl⟩ := List.mem_map.1 ((subR_sort r).mem_iff.1 hs)
    rw [sortR_kids] at hk
    rw [sortR_nm]
    exact h.inn q hq (fun e => hk (sortRs_nil.2 e))
  · obtain ⟨q, hq, rfl⟩ := List.mem_map.1 ((subR_sort r).mem_iff.1 hs)
    rw [sortR_kids] at hk
    rw [sortR_nm]
    exact h.lf q hq (sortRs_nil.1 hk)
/-- The children stand in the order of their first leaves. -/
def OrdR : List RT → Prop
  | [] => True
  | [_] => True
  | a :: b :: l => cmpS (firstR a) (firstR b) ≤ 0 ∧ OrdR (b :: l)
theorem OrdR.tail {a : RT} {l : List RT} (h : OrdR (a :: l)) : OrdR l := by
  cases l with
  | nil => trivial
  | cons b l => exact h.2
theorem insR_head (a : RT) (l : List RT) : ∃ c l', insR a l = c :: l' ∧ (c = a ∨ ∃ t, l = c :: t) := by
  cases l with
  | nil => exact ⟨a, [], rfl, .inl rfl⟩
  | cons b l =>
    rw [insR]
    split
    · exact ⟨a, b :: l, rfl, .inl rfl⟩
    · exact ⟨b, insR a l, rfl, .inr ⟨l, rfl⟩⟩
theorem insR_ord (a : RT) : ∀ l, OrdR l → OrdR (insR a l)
  | [], _ => trivial
  | b :: l, h => by
    rw [insR]
    split
    · rename_i h1; exact ⟨h1, h⟩
    · rename_i h1
      have h2 := insR_ord a l h.tail
      obtain ⟨c, l', e, hc⟩ := insR_head a l
      rw [e] at h2 ⊢
      refine ⟨?_, h2⟩
      rcases hc with rfl | ⟨t, rfl⟩
      · have := cmpS_anti (firstR c) (firstR b); omega
      · exact h.1
theorem sortRs_ord : ∀ l, OrdR (sortRs l)
  | [] => trivial
  | r :: rs => by rw [sortRs]; exact insR_ord _ _ (sortRs_ord rs)
theorem insR_le {a : RT} {l : List RT} (h : OrdR (a :: l)) : insR a l = a :: l := by
  cases l with
  | nil => rfl
  | cons b l => rw [insR, if_pos h.1]
theorem sortRs_fix : ∀ l : List RT, OrdR l → (∀ r ∈ l, sortR r = r) → sortRs l = l
  | [], _, _ => rfl
  | r :: rs, h, hf => by rw [sortRs, sortRs_fix rs h.tail (fun q hq => hf q (by simp [hq])), hf r (by simp)]; exact insR_le h
mutual
theorem sortR_idem : ∀ r : RT, sortR (sortR r) = sortR r
  | .node nm ks => by
    rw [sortR, sortR]
    congr 1
    refine sortRs_fix _ (sortRs_ord ks) (fun q hq => ?_)
    obtain ⟨s, hs, rfl⟩ := List.mem_map.1 ((sortRs_perm ks).mem_iff.1 hq)
    exact sortRs_idem ks s hs
theorem sortRs_idem : ∀ (rs : List RT) (s : RT), s ∈ rs → sortR (sortR s) = sortR s
  | [], _, h => by cases h
  | r :: rs, s, h => by
    by_cases e : s = r
    · rw [e]; exact sortR_idem r
    · exact sortRs_idem rs s (by
        rcases List.mem_cons.1 h with h | h
        · exact absurd h e
        · exact h)
end
section
variable {F : Frs} {n : Nat} {rk : Nat → Nat}
/-- The parts of a forest's rose tree are the rose trees of the nodes. -/
theorem subR_toRF (h : Wf F n rk) : ∀ {d i : Nat}, i < n → rk i ≤ d → subR (toRF F rk i) = (nodesF F rk i).map (toRF F rk) := by
  intro d
  induction d with
  | zero =>
    intro i hi hd
    have hk : F.kids i = [] := by
      cases hk : F.kids i with
      | nil => rfl
      | cons k l => have := (h.kid i hi k (by rw [hk]; simp)).2; omega
    rw [nodesF_eq h hi, hk]
    have e : toRF F rk i = .node (F.nm i) [] := by rw [toRF_eq h hi, hk]; rfl
    rw [e, subR, List.flatMap_nil, List.map_cons, e]; rfl
  | succ d ih =>
    intro i hi hd
    rw [nodesF_eq h hi, List.map_cons, List.map_flatMap]
    have e := toRF_eq h hi
    conv => lhs; rw [e, subR, subRs_flat, List.flatMap_map]
    rw [← e]
    congr 1
    refine flatMap_congr' fun k hk => ?_
    have := h.kid i hi k hk
    exact ih this.1 (by omega)
theorem toRF_nm (h : Wf F n rk) {i : Nat} (hi : i < n) : (toRF F rk i).nm = F.nm i := by rw [toRF_eq h hi]; rfl
theorem toRF_kids (h : Wf F n rk) {i : Nat} (hi : i < n) : (toRF F rk i).kids = (F.kids i).map (toRF F rk) := by rw [toRF_eq h hi]; rfl
end
theorem mem_nodes_lt {t : Tre} (h : treeErr t = 0) {j : Nat} (hj : j ∈ nodesF (frT t) (rkT t) 0) : j < t.ps.length :=
  subF_lt (frT_arb h).wf (treeErr_zero h).1 (Nat.le_refl _) ((mem_nodesF (frT_arb h).wf (treeErr_zero h).1 (Nat.le_refl _)).1 hj)
theorem subR_toR {t : Tre} (h : treeErr t = 0) : subR (toR t) = (nodesF (frT t) (rkT t) 0).map (toRF (frT t) (rkT t)) := subR_toRF (frT_arb h).wf (treeErr_zero h).1 (Nat.le_refl _)
theorem sizeR_toR {t : Tre} (h : treeErr t = 0) : sizeR (toR t) ≤ 64 := by
  rw [← subR_len, subR_toR h, List.length_map]
  have h1 := nodup_le (nodesF_nodup (frT_arb h) (R := t.ps.length) (fun i _ => rkT_le t i) (treeErr_zero h).1 (Nat.le_refl _)) (fun x hx => mem_nodes_lt h hx)
  have := (treeErr_zero h).2.1; omega
theorem nsR_toR {t : Tre} (h : treeErr t = 0) : nsR (toR t) = (nodesF (frT t) (rkT t) 0).map (gs t.ns) := by
  rw [nsR_sub, subR_toR h, List.map_map]
  refine List.map_congr_left fun j hj => ?_
  exact toRF_nm (frT_arb h).wf (mem_nodes_lt h hj)
theorem nErr_inn {ps : List Int} {ns : List ByteArray} {i : Nat} (h : nErr ps ns i = 0) (hi : isIn ps i = true) : (gs ns i).size = 0 := by
  unfold nErr at h
  rw [if_pos hi] at h
  split at h
  · assumption
  · cases h
theorem nErr_leaf {ps : List Int} {ns : List ByteArray} {i : Nat} (h : nErr ps ns i = 0) (hi : isIn ps i = false) : namedB (gs ns i).data.toList = true ∧ seenK ns i = false := by
  unfold nErr at h
  rw [hi, if_neg (by simp)] at h
  split at h
  · rename_i h1
    refine ⟨h1, ?_⟩
    cases hs : seenK ns i with
    | false => rfl
    | true => rw [hs] at h; cases h
  · cases h
/-- The rose tree of a valid tree is good. -/
theorem good_toR {t : Tre} (h : treeErr t = 0) : GoodR (toR t) := by
  obtain ⟨hp, hl, hn, hok, he⟩ := treeErr_zero h
  have hwf := (frT_arb h).wf
  refine ⟨fun s hs hk => ?_, fun s hs hk => ?_, ?_⟩
  · rw [subR_toR h] at hs
    obtain ⟨j, hj, rfl⟩ := List.mem_map.1 hs
    have hjn := mem_nodes_lt h hj
    rw [toRF_kids hwf hjn] at hk
    rw [toRF_nm hwf hjn]
    have : isIn t.ps j = true := (kids_isIn hok j).1 (fun e => hk (by rw [frT_kids, e]; rfl))
    exact nErr_inn (he j hjn) this
  · rw [subR_toR h] at hs
    obtain ⟨j, hj, rfl⟩ := List.mem_map.1 hs
    have hjn := mem_nodes_lt h hj
    rw [toRF_kids hwf hjn] at hk
    rw [toRF_nm hwf hjn]
    have : isIn t.ps j = false := by
      cases hb : isIn t.ps j with
      | false => rfl
      | true => exact absurd (List.map_eq_nil_iff.1 hk) ((kids_isIn hok j).2 hb)
    exact (nErr_leaf (he j hjn) this).1
  · unfold leafR
    rw [nsR_toR h, List.filter_map]
    have hnd := nodesF_nodup (frT_arb h) (R := t.ps.length) (fun i _ => rkT_le t i) hp (Nat.le_refl _)
    refine List.pairwise_map.2 (List.Pairwise.imp_of_mem ?_ (List.Pairwise.filter _ hnd))
    intro a b ha hb hne e
    have ha' := List.mem_filter.1 ha
    have hb' := List.mem_filter.1 hb
    have han := mem_nodes_lt h ha'.1
    have hbn := mem_nodes_lt h hb'.1
    have leaf : ∀ i, i < t.ps.length → (gs t.ns i).size ≠ 0 → (frT t).kids i = [] := fun i hi hs => by
      rw [frT_kids]
      cases hk : kidsL t.ps i with
      | nil => rfl
      | cons x l => exact absurd (nErr_inn (he i hi) ((kids_isIn hok i).1 (by rw [hk]; simp))) hs
    exact hne ((frT_arb h).names a b han hbn (leaf a han (by simpa using ha'.2)) (leaf b hbn (by simpa using hb'.2)) e)
/-- The canonical tree of a valid tree is valid; its rose tree is the sorted one; it is its own canonical tree. -/
theorem canT_ok {t : Tre} (h : treeErr t = 0) : treeErr (canT t) = 0 := by
  rw [canT_flat h]
  exact treeErr_flat (good_toR h).sort (by rw [sizeR_sort]; exact sizeR_toR h)
theorem toR_canT {t : Tre} (h : treeErr t = 0) : toR (canT t) = sortR (toR t) := by rw [canT_flat h, toR_flat]
theorem canT_idem {t : Tre} (h : treeErr t = 0) : canT (canT t) = canT t := by
  rw [canT_flat (canT_ok h), toR_canT h, sortR_idem, ← canT_flat h]
end Go.Proofs.Ytkfndaebmbnmaaa
namespace Go.Proofs.Ytkfndaebmbnmaaa
open Go.RowKit Go.Deep
theorem testBit_ofK {l : List Int} (h : Small l) (i : Nat) : ∀ {k : Nat}, k ≤ l.length → ((ofK l k).testBit i = true ↔ ∃ j, j < k ∧ gi l j = i)
  | 0, _ => by simp [ofK]
  | k + 1, hk => by
    have ih := testBit_ofK h i (k := k) (by omega)
    have hb := h k (by omega)
    show ((ofK l k ||| 2 ^ (gi l k).toNat).testBit i = true ↔ _)
    rw [Nat.testBit_or, Bool.or_eq_true, ih, Nat.testBit_two_pow, decide_eq_true_eq]
    constructor
    · rintro (⟨j, h1, h2⟩ | h1)
      · exact ⟨j, by omega, h2⟩
      · exact ⟨k, by omega, by omega⟩
    · rintro ⟨j, h1, h2⟩
      by_cases e : j = k
      · subst e; exact .inr (by omega)
      · exact .inl ⟨j, by omega, h2⟩
theorem testBit_ofS {l : List Int} (h : Small l) (i : Nat) : (ofS l).testBit i = true ↔ (i : Int) ∈ l := by
  unfold ofS
  rw [testBit_ofK h i (Nat.le_refl _)]
  constructor
  · rintro ⟨j, h1, h2⟩; rw [← h2]; exact gi_mem h1
  · intro hm
    obtain ⟨j, hj, e⟩ := List.getElem_of_mem hm
    exact ⟨j, hj, by simp [gi, hj, e]⟩
theorem ofS_u64 {l : List Int} (h : Small l) : U64 (ofS l) := Nat.lt_trans (ofS_lt h) (by decide)
theorem small_mem {l : List Int} (h : Small l) {x : Int} (hx : x ∈ l) : ∃ i : Nat, x = i ∧ i < 32 := by
  obtain ⟨j, hj, e⟩ := List.getElem_of_mem hx
  have h1 := h j hj
  have h2 : gi l j = x := by simp [gi, hj, e]
  rw [h2] at h1
  exact ⟨x.toNat, by omega, by omega⟩
theorem within_mem {a b : List Int} (ha : Small a) (hb : Small b) : withinB (ofS a) (ofS b) = true ↔ ∀ x ∈ a, x ∈ b := by
  rw [withinB_iff (ofS_u64 ha) (ofS_u64 hb)]
  constructor
  · intro h x hx
    obtain ⟨i, rfl, _⟩ := small_mem ha hx
    exact (testBit_ofS hb i).1 (h i ((testBit_ofS ha i).2 hx))
  · intro h i hi
    exact (testBit_ofS hb i).2 (h _ ((testBit_ofS ha i).1 hi))
theorem and_mem {a b : List Int} (ha : Small a) (hb : Small b) : ofS a &&& ofS b ≠ 0 ↔ ∃ x ∈ a, x ∈ b := by
  constructor
  · intro h
    have : ∃ i, (ofS a &&& ofS b).testBit i = true := by
      refine Classical.byContradiction fun hn => h (Nat.eq_of_testBit_eq fun i => ?_)
      rw [Nat.zero_testBit]
      cases hc : (ofS a &&& ofS b).testBit i
      · rfl
      · exact absurd ⟨i, hc⟩ hn
    obtain ⟨i, hi⟩ := this
    rw [Nat.testBit_and, Bool.and_eq_true] at hi
    exact ⟨i, (testBit_ofS ha i).1 hi.1, (testBit_ofS hb i).1 hi.2⟩
  · rintro ⟨x, h1, h2⟩ h0
    obtain ⟨i, rfl, _⟩ := small_mem ha h1
    have h3 : (ofS a &&& ofS b).testBit i = true := by rw [Nat.testBit_and, (testBit_ofS ha i).2 h1, (testBit_ofS hb i).2 h2]; rfl
    rw [h0, Nat.zero_testBit] at h3; cases h3
def lacksB (a b : List Int) : Bool := (List.range a.length).any fun j => !decide (gi a j ∈ b)
def commonB (a b : List Int) : Bool := (List.range a.length).any fun j => decide (gi a j ∈ b)
theorem lacksB_iff {a b : List Int} : lacksB a b = true ↔ ∃ x ∈ a, x ∉ b := by
  unfold lacksB
  rw [List.any_eq_true]
  constructor
  · rintro ⟨j, hj, h⟩
    exact ⟨gi a j, gi_mem (List.mem_range.1 hj), by simpa using h⟩
  · rintro ⟨x, hx, h⟩
    obtain ⟨j, hj, e⟩ := List.getElem_of_mem hx
    have h2 : gi a j = x := by simp [gi, hj, e]
    exact ⟨j, List.mem_range.2 hj, by rw [h2]; simpa using h⟩
theorem commonB_iff {a b : List Int} : commonB a b = true ↔ ∃ x ∈ a, x ∈ b := by
  unfold commonB
  rw [List.any_eq_true]
  constructor
  · rintro ⟨j, hj, h⟩
    exact ⟨gi a j, gi_mem (List.mem_range.1 hj), by simpa using h⟩
  · rintro ⟨x, hx, h⟩
    obtain ⟨j, hj, e⟩ := List.getElem_of_mem hx
    have h2 : gi a j = x := by simp [gi, hj, e]
    exact ⟨j, List.mem_range.2 hj, by rw [h2]; simpa using h⟩
theorem conf_lists {a b : List Int} (ha : Small a) (hb : Small b) : confB (ofS a) (ofS b) = (lacksB a b && lacksB b a && commonB a b) := by
  have h1 : withinB (ofS a) (ofS b) = !lacksB a b := by
    rw [Bool.eq_iff_iff, within_mem ha hb, Bool.not_eq_true', ← Bool.not_eq_true, lacksB_iff]
    constructor
    · rintro h ⟨x, h1, h2⟩; exact h2 (h x h1)
    · intro h x hx; exact Classical.byContradiction fun hn => h ⟨x, hx, hn⟩
  have h2 : withinB (ofS b) (ofS a) = !lacksB b a := by
    rw [Bool.eq_iff_iff, within_mem hb ha, Bool.not_eq_true', ← Bool.not_eq_true, lacksB_iff]
    constructor
    · rintro h ⟨x, h1, h2⟩; exact h2 (h x h1)
    · intro h x hx; exact Classical.byContradiction fun hn => h ⟨x, hx, hn⟩
  have h3 : decide (ofS a &&& ofS b ≠ 0) = commonB a b := by
    rw [Bool.eq_iff_iff, decide_eq_true_eq, and_mem ha hb, commonB_iff]
  unfold confB
  rw [h1, h2, h3, Bool.not_not, Bool.not_not]
  cases commonB a b <;> cases lacksB a b <;> cases lacksB b a <;> rfl
set_option maxRecDepth 100000 in
set_option maxHeartbeats 400000 in
theorem pairs11_t (S : Nat → Prop) (w : World) (bx : Nat) (vb : Value) (b : List Int) (x : Int) (hc : w.cell? ⟨bx, 0, none⟩ = some vb) (hb : IntsAt S w vb b) (hn : b.length ≤ 1000000) :
    FnIs 19 #[.pointer (some ⟨bx, 0, none⟩)] #[.int .i64 x] (.bool (!decide (x ∈ b))) w := by
  unfold FnIs
  show Calls Try.prog 19 #[.int .i64 x, .pointer (some ⟨bx, 0, none⟩)] w _
  have HC := Lib.hid (contains_int_t S w vb b x hb hn)
  rw [any_memI] at HC
  clear hb
  go_enter Try.func19, Try.ntmps19
  go_wp2_with fail
  refine HC.out.mono ?_
  rintro e w' ⟨rfl, rfl⟩
  go_wp2_with fail
  go_ret
  exact ⟨rfl, rfl⟩
set_option maxRecDepth 100000 in
set_option maxHeartbeats 400000 in
theorem pairs1_t (S T : Nat → Prop) (w : World) (va vb : Value) (a b : List Int) (ha : IntsAt S w va a) (hb : IntsAt T w vb b) (hn : a.length ≤ 1000000) (hm : b.length ≤ 1000000) :
    Calls Try.prog 17 #[va, vb] w fun e w' => e = .returned (.bool (lacksB a b)) ∧ Up w w' := by
  obtain ⟨q, c, rfl, _, _⟩ := SlAt.open hb
  have hb : IntsAt T w (.slice q b.length c) b := hb
  have hu := Up.alloc w (.cells #[.slice q b.length c] 23)
  have hbx := box1_0 w (.slice q b.length c) 23
  have HI := Lib.hid (ints_has_t 19 #[.pointer (some ⟨w.heap.size, 0, none⟩)] (enters_of Try.func19 (by kernel_rfl) rfl) S _ _ a.length _ (fun j => !decide (gi a j ∈ b)) (IntsAt.keep ha (hu.kept S)) hn
    (fun j _ => pairs11_t T _ w.heap.size _ b (gi a j) hbx (IntsAt.keep hb (hu.kept T)) hm))
  have HL : Hid (lacksB a b = (List.range a.length).any fun j => !decide (gi a j ∈ b)) := rfl
  have HU := Lib.hid hu
  clear ha hb hu hbx
  go_enter Try.func17, Try.ntmps17
  go_wp2_with fail
  refine HI.out.mono ?_
  rintro e w' ⟨rfl, rfl⟩
  go_wp2_with fail
  go_ret
  exact ⟨ret_bool HL.out.symm, HU.out⟩
set_option maxRecDepth 100000 in
set_option maxHeartbeats 400000 in
theorem pairs2_t (S : Nat → Prop) (w : World) (bx : Nat) (vb : Value) (b : List Int) (x : Int) (hc : w.cell? ⟨bx, 2, none⟩ = some vb) (hb : IntsAt S w vb b) (hn : b.length ≤ 1000000) :
    FnIs 20 #[.pointer (some ⟨bx, 0, none⟩)] #[.int .i64 x] (.bool (decide (x ∈ b))) w := by
  unfold FnIs
  show Calls Try.prog 20 #[.int .i64 x, .pointer (some ⟨bx, 0, none⟩)] w _
  have HC := Lib.hid (contains_int_t S w vb b x hb hn)
  rw [any_memI] at HC
  clear hb
  go_enter Try.func20, Try.ntmps20
  go_wp2_with fail
  refine HC.out.mono ?_
  rintro e w' ⟨rfl, rfl⟩
  go_wp2_with fail
  go_ret
  exact ⟨rfl, rfl⟩
theorem common_t (S T : Nat → Prop) (w : World) (va vb : Value) (a b : List Int) (bx : Nat) (ha : IntsAt S w va a) (hc : w.cell? ⟨bx, 2, none⟩ = some vb) (hb : IntsAt T w vb b) (hn : a.length ≤ 1000000) (hm : b.length ≤ 1000000) :
    Calls Try.prog 18 #[va, .func (.func 20) #[] #[.pointer (some ⟨bx, 0, none⟩)]] w fun e w' => e = .returned (.bool (commonB a b)) ∧ w = w' :=
  ints_has_t 20 #[.pointer (some ⟨bx, 0, none⟩)] (enters_of Try.func20 (by kernel_rfl) rfl) S w va a.length _ (fun j => decide (gi a j ∈ b)) ha hn (fun j _ => pairs2_t T w bx vb b (gi a j) hc hb hm)
end Go.Proofs.Ytkfndaebmbnmaaa
namespace Go.Proofs.Ytkfndaebmbnmaaa
def Tre.app (t : Tre) (r : RT) (p : Int) : Tre := ⟨t.ps ++ psR r t.ps.length p, t.ns ++ nsR r⟩
def Tre.apps (t : Tre) (rs : List RT) (own : Nat) : Tre := ⟨t.ps ++ psRs rs own t.ps.length, t.ns ++ nsRs rs⟩
theorem psRs_app : ∀ (a b : List RT) (own n : Nat), psRs (a ++ b) own n = psRs a own n ++ psRs b own (n + sizeRs a)
  | [], _, _, _ => rfl
  | r :: a, b, own, n => by rw [List.cons_append, psRs, psRs, psRs_app a b own (n + sizeR r), sizeRs, List.append_assoc, Nat.add_assoc]
theorem nsRs_app : ∀ (a b : List RT), nsRs (a ++ b) = nsRs a ++ nsRs b
  | [], _ => rfl
  | r :: a, b => by rw [List.cons_append, nsRs, nsRs, nsRs_app a b, List.append_assoc]
theorem apps_nil (t : Tre) (own : Nat) : t.apps [] own = t := by simp [Tre.apps, psRs, nsRs]
theorem apps_apps (t : Tre) (a b : List RT) (own : Nat) : (t.apps a own).apps b own = t.apps (a ++ b) own := by
  unfold Tre.apps
  rw [psRs_app, nsRs_app, List.append_assoc, List.append_assoc, List.length_append, psRs_len]
theorem apps_app (t : Tre) (a : List RT) (r : RT) (own : Nat) : (t.apps a own).app r (own : Int) = t.apps (a ++ [r]) own := by
  rw [← apps_apps]
  simp [Tre.apps, Tre.app, psRs, nsRs]
def leafN (names : List ByteArray) (s : Nat) : RT := .node (gs names s) []
def leavesN (names : List ByteArray) (left k : Nat) : List RT := ((List.range k).filter fun s => left.testBit s).map (leafN names)
theorem leafK_eq (names : List ByteArray) (left own : Nat) (t : Tre) : ∀ s, leafK names left (own : Int) s t = t.apps (leavesN names left s) own
  | 0 => (apps_nil t own).symm
  | s + 1 => by
    rw [leafK, leafK_eq names left own t s]
    unfold leavesN
    rw [List.range_succ, List.filter_append, List.map_append]
    by_cases h : left.testBit s = true
    · rw [if_pos h, List.filter_cons_of_pos h, List.filter_nil, List.map_cons, List.map_nil, ← apps_app]
      simp [Tre.push, Tre.app, leafN, psR, psRs, nsR, nsRs]
    · rw [if_neg h, List.filter_cons_of_neg h, List.filter_nil, List.map_nil, List.append_nil]
def kidsI (inner : List Nat) (x k : Nat) : List Nat := (inner.take k).filter (isKid inner x)
theorem kidF_eq {g : Nat → Int → Tre → Tre} {gr : Nat → RT} (inner : List Nat) (x : Nat) (hg : ∀ y ∈ inner, isKid inner x y = true → ∀ (p : Int) (t : Tre), g y p t = t.app (gr y) p) (own : Nat) (t : Tre) :
    ∀ k, k ≤ inner.length → kidF g inner x (own : Int) k (x, t) = ((kidsI inner x k).foldl minus x, t.apps ((kidsI inner x k).map gr) own)
  | 0, _ => by rw [kidF]; simp [kidsI, apps_nil]
  | k + 1, hk => by
    have ih := kidF_eq inner x hg own t k (by omega)
    have hgn : gn inner k = inner[k]'(by omega) := by simp [gn, show k < inner.length by omega]
    have hki : kidsI inner x (k + 1) = kidsI inner x k ++ (if isKid inner x (gn inner k) then [gn inner k] else []) := by
      unfold kidsI
      rw [List.take_succ_eq_append_getElem (show k < inner.length by omega), List.filter_append, ← hgn]
      congr 1
      by_cases h : isKid inner x (gn inner k) = true
      · rw [if_pos h, List.filter_cons_of_pos h, List.filter_nil]
      · rw [if_neg h, List.filter_cons_of_neg h, List.filter_nil]
    rw [kidF, ih, hki]
    by_cases h : isKid inner x (gn inner k) = true
    · rw [if_pos h, if_pos h, hg _ (by rw [hgn]; exact List.getElem_mem _) h, apps_app, List.foldl_append, List.map_append]; rfl
    · rw [if_neg h, if_neg h, List.append_nil]
def kidsX (inner : List Nat) (x : Nat) : List Nat := inner.filter (isKid inner x)
def leftX (inner : List Nat) (x : Nat) : Nat := (kidsX inner x).foldl minus x
/-- The rose tree that grow makes. -/
def growR (names : List ByteArray) (inner : List Nat) : Nat → Nat → RT
  | 0, _ => .node ByteArray.empty []
  | d + 1, x => .node ByteArray.empty ((kidsX inner x).map (growR names inner d) ++ leavesN names (leftX inner x) names.length)
theorem isKid_lt {inner : List Nat} {x y : Nat} (hx : U64 x) (hy : U64 y) (h : isKid inner x y = true) : y < x := by
  unfold isKid at h
  simp only [Bool.and_eq_true, decide_eq_true_eq] at h
  have := within_le hy hx h.1.2
  have := h.1.1
  omega
theorem growF_eq (names : List ByteArray) (inner : List Nat) (hi : ∀ y ∈ inner, U64 y) : ∀ (d x : Nat) (p : Int) (t : Tre), x < d → U64 x → growF names inner d x p t = t.app (growR names inner d x) p
  | 0, _, _, _, h, _ => by omega
  | d + 1, x, p, t, h, hx => by
    have hg : ∀ y ∈ inner, isKid inner x y = true → ∀ (p : Int) (t : Tre), growF names inner d y p t = t.app (growR names inner d y) p := fun y hy hk p t => by
      have := isKid_lt hx (hi y hy) hk
      exact growF_eq names inner hi d y p t (by omega) (hi y hy)
    rw [growF, kidF_eq inner x hg t.ps.length (t.push p ByteArray.empty) inner.length (Nat.le_refl _)]
    show leafK names _ _ _ _ = _
    rw [leafK_eq, apps_apps, growR]
    unfold kidsI
    rw [List.take_length]
    simp [Tre.apps, Tre.app, Tre.push, psR, nsR, kidsX, leftX]
/-- The tree that Tree puts into canonical form. -/
theorem rawT_flat (names : List ByteArray) (l : List Grp) (hn : names.length ≤ 32) (hc : gcErr l = 0) : rawT names l = flat (growR names (innL l (allN names.length)) (allN names.length + 1) (allN names.length)) := by
  have hall : U64 (allN names.length) := by
    unfold U64 allN
    have : 2 ^ names.length ≤ 2 ^ 32 := Nat.pow_le_pow_right (by decide) hn
    omega
  unfold rawT
  rw [growF_eq names _ (fun y hy => by
    obtain ⟨j, hj, e⟩ := List.getElem_of_mem hy
    have := inn_u64 hc (allN names.length) l.length j (Nat.le_refl _)
    unfold innL at hj e
    simp only [gn, List.getD_eq_getElem?_getD, List.getElem?_eq_getElem hj, Option.getD_some] at this
    rw [e] at this; exact this) _ _ _ _ (by omega) hall]
  rfl
end Go.Proofs.Ytkfndaebmbnmaaa
