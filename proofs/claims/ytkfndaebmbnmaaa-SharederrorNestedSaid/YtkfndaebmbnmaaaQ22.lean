/- Rose trees: all parts of one; when its numbering is a valid tree. Sorting rose trees keeps the parts; sorted twice is sorted once; the rose tree of a valid tree is good. Which nodes lie below a node of a tree that is numbered depth first. -/
import Derived.Test.YtkfndaebmbnmaaaQ21
namespace Go.Proofs.Ytkfndaebmbnmaaa
mutual
/-- All parts, depth first. -/
def subR : RT → List RT
  | .node nm ks => .node nm ks :: subRs ks
def subRs : List RT → List RT
  | [] => []
  | r :: rs => subR r ++ subRs rs
end
mutual
theorem subR_len : ∀ r : RT, (subR r).length = sizeR r
  | .node _ ks => by rw [subR, sizeR, List.length_cons, subRs_len ks]; omega
theorem subRs_len : ∀ rs : List RT, (subRs rs).length = sizeRs rs
  | [] => rfl
  | r :: rs => by rw [subRs, sizeRs, List.length_append, subR_len r, subRs_len rs]
end
mutual
theorem nsR_sub : ∀ r : RT, nsR r = (subR r).map RT.nm
  | .node nm ks => by rw [subR, nsR, List.map_cons, nsRs_sub ks]; rfl
theorem nsRs_sub : ∀ rs : List RT, nsRs rs = (subRs rs).map RT.nm
  | [] => rfl
  | r :: rs => by rw [subRs, nsRs, List.map_append, nsR_sub r, nsRs_sub rs]
end
theorem subRs_flat (rs : List RT) : subRs rs = rs.flatMap subR := by
  induction rs with
  | nil => rfl
  | cons r rs ih => rw [subRs, List.flatMap_cons, ih]
/-- The rose tree stands at n in the tree, its parent is p. -/
def AtR (t : Tre) (r : RT) (n : Nat) (p : Int) : Prop := ∃ pre post, t.ps = pre ++ (psR r n p ++ post) ∧ pre.length = n ∧ p < n ∧ (∀ x ∈ pre, x < (n : Int)) ∧ (∀ x ∈ post, x < (n : Int) ∨ ((n + sizeR r : Nat) : Int) ≤ x)
def AtRs (t : Tre) (rs : List RT) (own m : Nat) : Prop := ∃ pre post, t.ps = pre ++ (psRs rs own m ++ post) ∧ pre.length = m ∧ own < m ∧ (∀ x ∈ pre, x < (m : Int)) ∧ (∀ x ∈ post, x < (own : Int) ∨ ((m + sizeRs rs : Nat) : Int) ≤ x)
theorem AtR.kids {t : Tre} {nm : ByteArray} {ks : List RT} {n : Nat} {p : Int} (h : AtR t (.node nm ks) n p) : kidsL t.ps n = hdR ks (n + 1) ∧ AtRs t ks n (n + 1) := by
  obtain ⟨pre, post, hps, hpl, hp, hpre, hpost⟩ := h
  rw [sizeR] at hpost
  rw [psR, List.cons_append] at hps
  constructor
  · rw [kidsL_kf]
    · rw [hps, kf_app, kf_none n pre 0 (fun x hx e => by have := hpre x hx; omega), List.nil_append, kf, if_neg (by omega), kf_app, hpl, Nat.zero_add, kf_psRs n ks (n + 1) (by omega), psRs_len]
      rw [kf_none n post _ (fun x hx e => by rcases hpost x hx with h1 | h1 <;> omega), List.append_nil]
    · intro i hi e
      rw [hps] at e
      rcases Nat.lt_trichotomy i n with h1 | h1 | h1
      · rw [gi_app_l _ (by omega)] at e
        have := hpre _ (gi_mem (l := pre) (k := i) (by omega)); omega
      · subst h1
        have h2 := gi_app_r pre (p :: (psRs ks i (i + 1) ++ post)) 0
        rw [hpl] at h2
        have h2 : gi (pre ++ p :: (psRs ks i (i + 1) ++ post)) i = p := h2
        rw [h2] at e
        omega
      · exact h1
  · refine ⟨pre ++ [p], post, by rw [hps, List.append_assoc]; rfl, by simp [hpl], by omega, fun x hx => ?_, fun x hx => ?_⟩
    · rcases List.mem_append.1 hx with hx | hx
      · have := hpre x hx; omega
      · have : x = p := by simpa using hx
        omega
    · rcases hpost x hx with h3 | h3
      · exact .inl h3
      · exact .inr (by omega)
theorem AtRs.cons {t : Tre} {r : RT} {rs : List RT} {own m : Nat} (h : AtRs t (r :: rs) own m) : AtR t r m own ∧ AtRs t rs own (m + sizeR r) := by
  obtain ⟨pre, post, hps, hpl, hm, hpre, hpost⟩ := h
  rw [sizeRs] at hpost
  rw [psRs, List.append_assoc] at hps
  constructor
  · refine ⟨pre, _, hps, hpl, by omega, hpre, fun x hx => ?_⟩
    rcases List.mem_append.1 hx with hx | hx
    · rcases psRs_bd rs own (m + sizeR r) x hx with h2 | ⟨h2, _⟩
      · exact .inl (by omega)
      · exact .inr h2
    · rcases hpost x hx with h2 | h2
      · exact .inl (by omega)
      · exact .inr (by omega)
  · refine ⟨pre ++ psR r m own, post, by rw [hps, List.append_assoc], by rw [List.length_append, psR_len, hpl], by omega, fun x hx => ?_, fun x hx => ?_⟩
    · rcases List.mem_append.1 hx with hx | hx
      · have := hpre x hx; omega
      · rcases psR_bd r m own x hx with h3 | ⟨_, h3⟩ <;> omega
    · rcases hpost x hx with h3 | h3
      · exact .inl h3
      · exact .inr (by omega)
mutual
theorem kids_at {t : Tre} : ∀ (r : RT) (n : Nat) (p : Int), AtR t r n p → ∀ (i : Nat) (s : RT), (subR r)[i]? = some s → kidsL t.ps (n + i) = hdR s.kids (n + i + 1)
  | .node nm ks, n, p, h, i, s, hs => by
    rw [subR] at hs
    cases i with
    | zero =>
      have e : RT.node nm ks = s := by simpa using hs
      subst e
      exact h.kids.1
    | succ i =>
      rw [List.getElem?_cons_succ] at hs
      have := kidss_at ks n (n + 1) h.kids.2 i s hs
      rw [show n + (i + 1) = n + 1 + i by omega]; exact this
theorem kidss_at {t : Tre} : ∀ (rs : List RT) (own m : Nat), AtRs t rs own m → ∀ (i : Nat) (s : RT), (subRs rs)[i]? = some s → kidsL t.ps (m + i) = hdR s.kids (m + i + 1)
  | [], _, _, _, i, s, hs => by simp [subRs] at hs
  | r :: rs, own, m, h, i, s, hs => by
    rw [subRs] at hs
    by_cases hi : i < sizeR r
    · rw [List.getElem?_append_left (by rw [subR_len]; exact hi)] at hs
      exact kids_at r m own h.cons.1 i s hs
    · rw [List.getElem?_append_right (by rw [subR_len]; omega), subR_len] at hs
      have := kidss_at rs own (m + sizeR r) h.cons.2 (i - sizeR r) s hs
      rw [show m + sizeR r + (i - sizeR r) = m + i by omega] at this; exact this
end
theorem AtR.flat (r : RT) : AtR (flat r) r 0 (-1) := ⟨[], [], by simp [Ytkfndaebmbnmaaa.flat], rfl, by omega, fun x hx => by simp at hx, fun x hx => by simp at hx⟩
theorem kids_flat {r : RT} {i : Nat} {s : RT} (h : (subR r)[i]? = some s) : kidsL (flat r).ps i = hdR s.kids (i + 1) := by
  have := kids_at r 0 (-1) (AtR.flat r) i s h
  simpa using this
mutual
theorem psR_gi : ∀ (r : RT) (n : Nat) (p : Int) (j : Nat), 0 < j → j < sizeR r → (n : Int) ≤ gi (psR r n p) j ∧ gi (psR r n p) j < ((n + j : Nat) : Int)
  | .node nm ks, n, p, j, h0, hj => by
    rw [sizeR] at hj
    obtain ⟨k, rfl⟩ : ∃ k, j = k + 1 := ⟨j - 1, by omega⟩
    have h := psRs_gi ks n (n + 1) k (by omega) (by omega)
    have e : gi (psR (.node nm ks) n p) (k + 1) = gi (psRs ks n (n + 1)) k := by rw [psR]; simp [gi]
    rw [e]
    exact ⟨h.1, by have := h.2; omega⟩
theorem psRs_gi : ∀ (rs : List RT) (own n j : Nat), own < n → j < sizeRs rs → (own : Int) ≤ gi (psRs rs own n) j ∧ gi (psRs rs own n) j < ((n + j : Nat) : Int)
  | [], _, _, _, _, h => by simp [sizeRs] at h
  | r :: rs, own, n, j, ho, hj => by
    rw [sizeRs] at hj
    rw [psRs]
    by_cases hr : j < sizeR r
    · rw [gi_app_l _ (by rw [psR_len]; exact hr)]
      by_cases h0 : j = 0
      · subst h0
        obtain ⟨nm, ks⟩ := r
        have e : gi (psR (.node nm ks) n own) 0 = own := by rw [psR]; simp [gi]
        rw [e]; exact ⟨by omega, by omega⟩
      · have h := psR_gi r n own j (by omega) hr
        exact ⟨by omega, h.2⟩
    · have h := psRs_gi rs own (n + sizeR r) (j - sizeR r) (by omega) (by omega)
      have e := gi_app_r (psR r n own) (psRs rs own (n + sizeR r)) (j - sizeR r)
      rw [psR_len, show sizeR r + (j - sizeR r) = j by omega] at e
      rw [e]
      exact ⟨h.1, by have := h.2; omega⟩
end
theorem pOk_flat (r : RT) : pOkB (flat r).ps = true := by
  refine pOkB_all fun j hj => ?_
  rw [flat_ps] at hj
  show okp j (gi (psR r 0 (-1)) j) = true
  unfold okp
  by_cases h0 : j = 0
  · subst h0
    obtain ⟨nm, ks⟩ := r
    rw [if_pos rfl, psR]; rfl
  · rw [if_neg h0]
    have h := psR_gi r 0 (-1) j (by omega) hj
    have h1 : 0 ≤ gi (psR r 0 (-1)) j := by have := h.1; omega
    have h2 : gi (psR r 0 (-1)) j < (j : Int) := by have := h.2; omega
    simp [h1, h2]
/-- The names of the leaves. -/
def leafR (r : RT) : List ByteArray := (nsR r).filter fun s => decide (s.size ≠ 0)
structure GoodR (r : RT) : Prop where
  inn : ∀ s ∈ subR r, s.kids ≠ [] → s.nm.size = 0
  lf : ∀ s ∈ subR r, s.kids = [] → namedB s.nm.data.toList = true
  nd : (leafR r).Nodup
theorem named_size {s : ByteArray} (h : namedB s.data.toList = true) : s.size ≠ 0 := by
  intro e
  have : s.data.toList = [] := by
    apply List.eq_nil_of_length_eq_zero
    simpa using e
  rw [this] at h
  revert h; decide
theorem treeErr_flat {r : RT} (h : GoodR r) (hs : sizeR r ≤ 64) : treeErr (flat r) = 0 := by
  unfold treeErr
  rw [flat_ps, flat_ns, if_neg (by have := sizeR_pos r; omega), if_neg (by omega), if_neg (by simp), if_pos (pOk_flat r)]
  refine firstNZ_zero fun i hi => ?_
  have hi2 : i < (subR r).length := by rw [subR_len]; exact hi
  obtain ⟨s, hsi⟩ : ∃ s, (subR r)[i]? = some s := ⟨_, List.getElem?_eq_getElem hi2⟩
  have hmem : s ∈ subR r := List.mem_of_getElem? hsi
  have hk := kids_flat hsi
  have hnm : gs (flat r).ns i = s.nm := by
    show gs (nsR r) i = _
    rw [nsR_sub]; simp [gs, hsi]
  have hin := kids_isIn (pOk_flat r) i
  unfold nErr
  rw [hnm]
  by_cases hks : s.kids = []
  · have h1 : isIn (flat r).ps i = false := by
      cases hb : isIn (flat r).ps i with
      | false => rfl
      | true => exact absurd (by rw [hk, hks]; rfl) (hin.2 hb)
    rw [h1, if_neg (by simp), if_pos (h.lf s hmem hks)]
    have h2 : seenK (flat r).ns i = false := by
      rw [Bool.eq_false_iff]; intro e
      obtain ⟨j, hj, e⟩ := List.any_eq_true.1 e
      have hj : j < i := List.mem_range.1 hj
      have e : gs (nsR r) j = gs (nsR r) i := of_decide_eq_true e
      have hpw := List.pairwise_filter.1 h.nd
      have hln := nsR_len r
      have h3 := List.pairwise_iff_getElem.1 hpw j i (by omega) (by omega) hj
      have hgj : gs (nsR r) j = (nsR r)[j]'(by omega) := by simp [gs, show j < (nsR r).length by omega]
      have hgi : gs (nsR r) i = (nsR r)[i]'(by omega) := by simp [gs, show i < (nsR r).length by omega]
      rw [← hgj, ← hgi, e] at h3
      have h4 : gs (nsR r) i = s.nm := hnm
      have h5 := named_size (h.lf s hmem hks)
      rw [h4] at h3
      exact h3 (by simpa using h5) (by simpa using h5) rfl
    rw [h2]; rfl
  · have h1 : isIn (flat r).ps i = true := hin.1 (by
      rw [hk]
      cases hq : s.kids with
      | nil => exact absurd hq hks
      | cons a l => simp [hdR])
    rw [h1, if_pos rfl, if_pos (h.inn s hmem hks)]
end Go.Proofs.Ytkfndaebmbnmaaa
namespace Go.Proofs.Ytkfndaebmbnmaaa
theorem insR_perm (a : RT) : ∀ l, (insR a l).Perm (a :: l)
  | [] => List.Perm.refl _
  | b :: l => by
    rw [insR]
    split
    · exact List.Perm.refl _
    · exact ((insR_perm a l).cons b).trans (List.Perm.swap a b l)
theorem sortRs_perm : ∀ l : List RT, (sortRs l).Perm (l.map sortR)
  | [] => List.Perm.refl _
  | r :: rs => by
    rw [sortRs, List.map_cons]
    exact (insR_perm _ _).trans ((sortRs_perm rs).cons _)
theorem sortR_kids (r : RT) : (sortR r).kids = sortRs r.kids := by cases r; rfl
theorem sortR_nm (r : RT) : (sortR r).nm = r.nm := by cases r; rfl
theorem sortRs_nil {l : List RT} : sortRs l = [] ↔ l = [] := by
  constructor
  · intro h
    have := (sortRs_perm l).length_eq
    rw [h, List.length_map] at this
    exact List.eq_nil_of_length_eq_zero this.symm
  · rintro rfl; rfl
theorem subRs_perm {l l' : List RT} (h : l.Perm l') : (subRs l).Perm (subRs l') := by
  rw [subRs_flat, subRs_flat]
  exact h.flatMap_right _
mutual
theorem subR_sort : ∀ r : RT, (subR (sortR r)).Perm ((subR r).map sortR)
  | .node nm ks => by
    rw [sortR, subR, subR, List.map_cons]
    refine List.Perm.cons _ ?_
    exact (subRs_perm (sortRs_perm ks)).trans (subRs_sort ks)
theorem subRs_sort : ∀ rs : List RT, (subRs (rs.map sortR)).Perm ((subRs rs).map sortR)
  | [] => List.Perm.refl _
  | r :: rs => by
    rw [List.map_cons, subRs, subRs, List.map_append]
    exact (subR_sort r).append (subRs_sort rs)
end
theorem sizeR_sort (r : RT) : sizeR (sortR r) = sizeR r := by
  have := (subR_sort r).length_eq
  rw [List.length_map, subR_len, subR_len] at this; exact this
theorem nsR_sort (r : RT) : (nsR (sortR r)).Perm (nsR r) := by
  rw [nsR_sub, nsR_sub]
  refine ((subR_sort r).map RT.nm).trans ?_
  rw [List.map_map]
  have : (RT.nm ∘ sortR) = RT.nm := funext sortR_nm
  rw [this]
theorem leafR_sort (r : RT) : (leafR (sortR r)).Perm (leafR r) := (nsR_sort r).filter _
theorem GoodR.sort {r : RT} (h : GoodR r) : GoodR (sortR r) := by
  refine ⟨fun s hs hk => ?_, fun s hs hk => ?_, (leafR_sort r).nodup_iff.2 h.nd⟩
  · obtain ⟨q, hq, rfl⟩ := List.mem_map.1 ((subR_sort r).mem_iff.1 hs)
    rw [sortR_kids] at hk
    rw [sortR_nm]
    exact h.inn q hq (fun e => hk (sortRs_nil.2 e))
  · obtain ⟨q, hq, rfl⟩ := List.mem_map.1 ((subR_sort r).mem_iff.1 hs)
    rw [sortR_kids] at hk
    rw [sortR_nm]
    exact h.lf q hq (sortRs_nil.1 hk)
/-- The children stand in the order of their first leaves. -/
def OrdR : List RT → Prop
  | [] => True
  | [_] => True
  | a :: b :: l => cmpS (firstR a) (firstR b) ≤ 0 ∧ OrdR (b :: l)
theorem OrdR.tail {a : RT} {l : List RT} (h : OrdR (a :: l)) : OrdR l := by
  cases l with
  | nil => trivial
  | cons b l => exact h.2
theorem insR_head (a : RT) (l : List RT) : ∃ c l', insR a l = c :: l' ∧ (c = a ∨ ∃ t, l = c :: t) := by
  cases l with
  | nil => exact ⟨a, [], rfl, .inl rfl⟩
  | cons b l =>
    rw [insR]
    split
    · exact ⟨a, b :: l, rfl, .inl rfl⟩
    · exact ⟨b, insR a l, rfl, .inr ⟨l, rfl⟩⟩
theorem insR_ord (a : RT) : ∀ l, OrdR l → OrdR (insR a l)
  | [], _ => trivial
  | b :: l, h => by
    rw [insR]
    split
    · rename_i h1; exact ⟨h1, h⟩
    · rename_i h1
      have h2 := insR_ord a l h.tail
      obtain ⟨c, l', e, hc⟩ := insR_head a l
      rw [e] at h2 ⊢
      refine ⟨?_, h2⟩
      rcases hc with rfl | ⟨t, rfl⟩
      · have := cmpS_anti (firstR c) (firstR b); omega
      · exact h.1
theorem sortRs_ord : ∀ l, OrdR (sortRs l)
  | [] => trivial
  | r :: rs => by rw [sortRs]; exact insR_ord _ _ (sortRs_ord rs)
theorem insR_le {a : RT} {l : List RT} (h : OrdR (a :: l)) : insR a l = a :: l := by
  cases l with
  | nil => rfl
  | cons b l => rw [insR, if_pos h.1]
theorem sortRs_fix : ∀ l : List RT, OrdR l → (∀ r ∈ l, sortR r = r) → sortRs l = l
  | [], _, _ => rfl
  | r :: rs, h, hf => by rw [sortRs, sortRs_fix rs h.tail (fun q hq => hf q (by simp [hq])), hf r (by simp)]; exact insR_le h
mutual
theorem sortR_idem : ∀ r : RT, sortR (sortR r) = sortR r
  | .node nm ks => by
    rw [sortR, sortR]
    congr 1
    refine sortRs_fix _ (sortRs_ord ks) (fun q hq => ?_)
    obtain ⟨s, hs, rfl⟩ := List.mem_map.1 ((sortRs_perm ks).mem_iff.1 hq)
    exact sortRs_idem ks s hs
theorem sortRs_idem : ∀ (rs : List RT) (s : RT), s ∈ rs → sortR (sortR s) = sortR s
  | [], _, h => by cases h
  | r :: rs, s, h => by
    by_cases e : s = r
    · rw [e]; exact sortR_idem r
    · exact sortRs_idem rs s (by
        rcases List.mem_cons.1 h with h | h
        · exact absurd h e
        · exact h)
end
section
variable {F : Frs} {n : Nat} {rk : Nat → Nat}
/-- The parts of a forest's rose tree are the rose trees of the nodes. -/
theorem subR_toRF (h : Wf F n rk) : ∀ {d i : Nat}, i < n → rk i ≤ d → subR (toRF F rk i) = (nodesF F rk i).map (toRF F rk) := by
  intro d
  induction d with
  | zero =>
    intro i hi hd
    have hk : F.kids i = [] := by
      cases hk : F.kids i with
      | nil => rfl
      | cons k l => have := (h.kid i hi k (by rw [hk]; simp)).2; omega
    rw [nodesF_eq h hi, hk]
    have e : toRF F rk i = .node (F.nm i) [] := by rw [toRF_eq h hi, hk]; rfl
    rw [e, subR, List.flatMap_nil, List.map_cons, e]; rfl
  | succ d ih =>
    intro i hi hd
    rw [nodesF_eq h hi, List.map_cons, List.map_flatMap]
    have e := toRF_eq h hi
    conv => lhs; rw [e, subR, subRs_flat, List.flatMap_map]
    rw [← e]
    congr 1
    refine flatMap_congr' fun k hk => ?_
    have := h.kid i hi k hk
    exact ih this.1 (by omega)
theorem toRF_nm (h : Wf F n rk) {i : Nat} (hi : i < n) : (toRF F rk i).nm = F.nm i := by rw [toRF_eq h hi]; rfl
theorem toRF_kids (h : Wf F n rk) {i : Nat} (hi : i < n) : (toRF F rk i).kids = (F.kids i).map (toRF F rk) := by rw [toRF_eq h hi]; rfl
end
theorem mem_nodes_lt {t : Tre} (h : treeErr t = 0) {j : Nat} (hj : j ∈ nodesF (frT t) (rkT t) 0) : j < t.ps.length :=
  subF_lt (frT_arb h).wf (treeErr_zero h).1 (Nat.le_refl _) ((mem_nodesF (frT_arb h).wf (treeErr_zero h).1 (Nat.le_refl _)).1 hj)
theorem subR_toR {t : Tre} (h : treeErr t = 0) : subR (toR t) = (nodesF (frT t) (rkT t) 0).map (toRF (frT t) (rkT t)) := subR_toRF (frT_arb h).wf (treeErr_zero h).1 (Nat.le_refl _)
theorem sizeR_toR {t : Tre} (h : treeErr t = 0) : sizeR (toR t) ≤ 64 := by
  rw [← subR_len, subR_toR h, List.length_map]
  have h1 := nodup_le (nodesF_nodup (frT_arb h) (R := t.ps.length) (fun i _ => rkT_le t i) (treeErr_zero h).1 (Nat.le_refl _)) (fun x hx => mem_nodes_lt h hx)
  have := (treeErr_zero h).2.1; omega
theorem nsR_toR {t : Tre} (h : treeErr t = 0) : nsR (toR t) = (nodesF (frT t) (rkT t) 0).map (gs t.ns) := by
  rw [nsR_sub, subR_toR h, List.map_map]
  refine List.map_congr_left fun j hj => ?_
  exact toRF_nm (frT_arb h).wf (mem_nodes_lt h hj)
theorem nErr_inn {ps : List Int} {ns : List ByteArray} {i : Nat} (h : nErr ps ns i = 0) (hi : isIn ps i = true) : (gs ns i).size = 0 := by
  unfold nErr at h
  rw [if_pos hi] at h
  split at h
  · assumption
  · cases h
theorem nErr_leaf {ps : List Int} {ns : List ByteArray} {i : Nat} (h : nErr ps ns i = 0) (hi : isIn ps i = false) : namedB (gs ns i).data.toList = true ∧ seenK ns i = false := by
  unfold nErr at h
  rw [hi, if_neg (by simp)] at h
  split at h
  · rename_i h1
    refine ⟨h1, ?_⟩
    cases hs : seenK ns i with
    | false => rfl
    | true => rw [hs] at h; cases h
  · cases h
/-- The rose tree of a valid tree is good. -/
theorem good_toR {t : Tre} (h : treeErr t = 0) : GoodR (toR t) := by
  obtain ⟨hp, hl, hn, hok, he⟩ := treeErr_zero h
  have hwf := (frT_arb h).wf
  refine ⟨fun s hs hk => ?_, fun s hs hk => ?_, ?_⟩
  · rw [subR_toR h] at hs
    obtain ⟨j, hj, rfl⟩ := List.mem_map.1 hs
    have hjn := mem_nodes_lt h hj
    rw [toRF_kids hwf hjn] at hk
    rw [toRF_nm hwf hjn]
    have : isIn t.ps j = true := (kids_isIn hok j).1 (fun e => hk (by rw [frT_kids, e]; rfl))
    exact nErr_inn (he j hjn) this
  · rw [subR_toR h] at hs
    obtain ⟨j, hj, rfl⟩ := List.mem_map.1 hs
    have hjn := mem_nodes_lt h hj
    rw [toRF_kids hwf hjn] at hk
    rw [toRF_nm hwf hjn]
    have : isIn t.ps j = false := by
      cases hb : isIn t.ps j with
      | false => rfl
      | true => exact absurd (List.map_eq_nil_iff.1 hk) ((kids_isIn hok j).2 hb)
    exact (nErr_leaf (he j hjn) this).1
  · unfold leafR
    rw [nsR_toR h, List.filter_map]
    have hnd := nodesF_nodup (frT_arb h) (R := t.ps.length) (fun i _ => rkT_le t i) hp (Nat.le_refl _)
    refine List.pairwise_map.2 (List.Pairwise.imp_of_mem ?_ (List.Pairwise.filter _ hnd))
    intro a b ha hb hne e
    have ha' := List.mem_filter.1 ha
    have hb' := List.mem_filter.1 hb
    have han := mem_nodes_lt h ha'.1
    have hbn := mem_nodes_lt h hb'.1
    have leaf : ∀ i, i < t.ps.length → (gs t.ns i).size ≠ 0 → (frT t).kids i = [] := fun i hi hs => by
      rw [frT_kids]
      cases hk : kidsL t.ps i with
      | nil => rfl
      | cons x l => exact absurd (nErr_inn (he i hi) ((kids_isIn hok i).1 (by rw [hk]; simp))) hs
    exact hne ((frT_arb h).names a b han hbn (leaf a han (by simpa using ha'.2)) (leaf b hbn (by simpa using hb'.2)) e)
/-- The canonical tree of a valid tree is valid; its rose tree is the sorted one; it is its own canonical tree. -/
theorem canT_ok {t : Tre} (h : treeErr t = 0) : treeErr (canT t) = 0 := by
  rw [canT_flat h]
  exact treeErr_flat (good_toR h).sort (by rw [sizeR_sort]; exact sizeR_toR h)
theorem toR_canT {t : Tre} (h : treeErr t = 0) : toR (canT t) = sortR (toR t) := by rw [canT_flat h, toR_flat]
theorem canT_idem {t : Tre} (h : treeErr t = 0) : canT (canT t) = canT t := by
  rw [canT_flat (canT_ok h), toR_canT h, sortR_idem, ← canT_flat h]
end Go.Proofs.Ytkfndaebmbnmaaa
namespace Go.Proofs.Ytkfndaebmbnmaaa
/-- Up from k, while above n. -/
def climb (ps : List Int) (n : Nat) : Nat → Nat → Nat
  | 0, k => k
  | d + 1, k => if n < k then climb ps n d (gi ps k).toNat else k
def hitB (ps : List Int) (n i : Nat) : Bool := decide (climb ps n i i = n)
/-- The number of a name of one letter. -/
def lvNum (s : ByteArray) : Int := IntKind.u8.wrap (((s.data.toList.getD 0 0).toNat : Int) - 65)
def lvOne (t : Tre) (n i : Nat) : List Int := if hitB t.ps n i && decide ((gs t.ns i).size = 1) then [lvNum (gs t.ns i)] else []
def lvK (t : Tre) (n : Nat) : Nat → List Int
  | 0 => []
  | m + 1 => lvK t n m ++ lvOne t n (n + m)
theorem lvK_len (t : Tre) (n : Nat) : ∀ m, (lvK t n m).length ≤ m
  | 0 => Nat.le_refl _
  | m + 1 => by
    have := lvK_len t n m
    rw [lvK, List.length_append]
    unfold lvOne
    split
    · simp; omega
    · simp; omega
theorem pOkB_par {ps : List Int} (h : pOkB ps = true) {k : Nat} (hk : k < ps.length) (h0 : 0 < k) : 0 ≤ gi ps k ∧ gi ps k < k := by
  have h1 := pOkB_at h hk
  unfold okp at h1
  rw [if_neg (by omega)] at h1
  simpa using h1
theorem climb_fuel {ps : List Int} (hp : pOkB ps = true) (n : Nat) : ∀ {d e k : Nat}, k < ps.length → k ≤ d → k ≤ e → climb ps n d k = climb ps n e k := by
  intro d
  induction d with
  | zero =>
    intro e k hl h1 h2
    obtain rfl : k = 0 := by omega
    cases e with
    | zero => rfl
    | succ e => simp [climb]
  | succ d ih =>
    intro e k hl h1 h2
    cases e with
    | zero =>
      obtain rfl : k = 0 := by omega
      simp [climb]
    | succ e =>
      rw [climb, climb]
      split
      · rename_i hnk
        have := pOkB_par hp hl (by omega)
        exact ih (by omega) (by omega) (by omega)
      · rfl
theorem climb_step {ps : List Int} (hp : pOkB ps = true) {n k : Nat} (hk : k < ps.length) (hn : n < k) : climb ps n k k = climb ps n (gi ps k).toNat (gi ps k).toNat := by
  have h1 := pOkB_par hp hk (by omega)
  obtain ⟨m, rfl⟩ : ∃ m, k = m + 1 := ⟨k - 1, by omega⟩
  rw [climb, if_pos hn]
  exact climb_fuel hp n (by omega) (by omega) (Nat.le_refl _)
theorem climb_stop {ps : List Int} {n k : Nat} (hn : ¬ n < k) : climb ps n k k = k := by
  cases k with
  | zero => rfl
  | succ k => rw [climb, if_neg hn]

/-- Node j lies below i: it is i, or lies below a child of i. -/
theorem hit_self {ps : List Int} (i : Nat) : hitB ps i i = true := by unfold hitB; rw [climb_stop (by omega)]; simp
theorem hit_le {ps : List Int} (_ : pOkB ps = true) {i : Nat} : ∀ {j : Nat}, j < ps.length → hitB ps i j = true → i ≤ j := by
  intro j
  induction j using Nat.strongRecOn with
  | ind j ih =>
    intro hj h
    by_cases e : i < j
    · omega
    · unfold hitB at h
      rw [climb_stop e] at h
      have : j = i := by simpa using h
      omega
theorem hit_step {ps : List Int} (hp : pOkB ps = true) {i j : Nat} (hj : j < ps.length) (hi : i < j) : hitB ps i j = hitB ps i (gi ps j).toNat := by
  unfold hitB; rw [climb_step hp hj hi]
theorem hit_kid {ps : List Int} (hp : pOkB ps = true) {i : Nat} : ∀ {j : Nat}, j < ps.length → (hitB ps i j = true ↔ j = i ∨ ∃ c, c < ps.length ∧ i < c ∧ gi ps c = (i : Int) ∧ hitB ps c j = true) := by
  intro j
  induction j using Nat.strongRecOn with
  | ind j ih =>
    intro hj
    by_cases e : i < j
    · have hpar := pOkB_par hp hj (by omega)
      have hpn : ((gi ps j).toNat : Int) = gi ps j := Int.toNat_of_nonneg hpar.1
      have hpl : (gi ps j).toNat < j := by omega
      rw [hit_step hp hj e, ih _ hpl (by omega)]
      constructor
      · rintro (h | ⟨c, h1, h2, h3, h4⟩)
        · exact .inr ⟨j, hj, e, by omega, hit_self j⟩
        · have := hit_le hp (show (gi ps j).toNat < ps.length by omega) h4
          exact .inr ⟨c, h1, h2, h3, by rw [hit_step hp hj (by omega)]; exact h4⟩
      · rintro (h | ⟨c, h1, h2, h3, h4⟩)
        · omega
        · have hcj := hit_le hp hj h4
          by_cases ec : c = j
          · subst ec; left; omega
          · right
            exact ⟨c, h1, h2, h3, by rw [hit_step hp hj (by omega)] at h4; exact h4⟩
    · unfold hitB
      rw [climb_stop e]
      constructor
      · intro h; left; simpa using h
      · rintro (h | ⟨c, h1, h2, h3, h4⟩)
        · simpa using h
        · have := hit_le hp hj h4; omega
mutual
/-- Below the i-th node lie the nodes of its part, and no others. -/
theorem psR_int : ∀ (r : RT) (n : Nat) (p : Int) (i : Nat) (s : RT), (subR r)[i]? = some s → i + sizeR s ≤ sizeR r ∧ (∀ j, i < j → j < i + sizeR s → ((n + i : Nat) : Int) ≤ gi (psR r n p) j) ∧ (∀ j, i + sizeR s ≤ j → j < sizeR r → gi (psR r n p) j < ((n + i : Nat) : Int) ∨ ((n + i + sizeR s : Nat) : Int) ≤ gi (psR r n p) j) ∧ (nsR r).drop i = nsR s ++ (nsR r).drop (i + sizeR s)
  | .node nm ks, n, p, 0, s, h => by
    rw [subR] at h
    obtain rfl : RT.node nm ks = s := by simpa using h
    refine ⟨by omega, fun j h1 h2 => ?_, fun j h1 h2 => by omega, ?_⟩
    · have := (psR_gi (.node nm ks) n p j h1 (by omega)).1; omega
    · rw [Nat.zero_add, ← nsR_len, List.drop_length, List.append_nil]; rfl
  | .node nm ks, n, p, i + 1, s, h => by
    rw [subR, List.getElem?_cons_succ] at h
    obtain ⟨h1, h2, h3, h4⟩ := psRs_int ks n (n + 1) i s (by omega) h
    have hg : ∀ j, gi (psR (.node nm ks) n p) (j + 1) = gi (psRs ks n (n + 1)) j := fun j => by rw [psR]; simp [gi]
    refine ⟨by rw [sizeR]; omega, fun j a b => ?_, fun j a b => ?_, ?_⟩
    · obtain ⟨m, rfl⟩ : ∃ m, j = m + 1 := ⟨j - 1, by omega⟩
      rw [hg]
      have := h2 m (by omega) (by omega); omega
    · obtain ⟨m, rfl⟩ : ∃ m, j = m + 1 := ⟨j - 1, by omega⟩
      rw [hg]
      rw [sizeR] at b
      have := h3 m (by omega) (by omega); omega
    · rw [nsR, List.drop_succ_cons, show i + 1 + sizeR s = (i + sizeR s) + 1 by omega, List.drop_succ_cons]; exact h4
theorem psRs_int : ∀ (rs : List RT) (own n : Nat) (i : Nat) (s : RT), own < n → (subRs rs)[i]? = some s → i + sizeR s ≤ sizeRs rs ∧ (∀ j, i < j → j < i + sizeR s → ((n + i : Nat) : Int) ≤ gi (psRs rs own n) j) ∧ (∀ j, i + sizeR s ≤ j → j < sizeRs rs → gi (psRs rs own n) j < ((n + i : Nat) : Int) ∨ ((n + i + sizeR s : Nat) : Int) ≤ gi (psRs rs own n) j) ∧ (nsRs rs).drop i = nsR s ++ (nsRs rs).drop (i + sizeR s)
  | [], _, _, _, _, _, h => by simp [subRs] at h
  | r :: rs, own, n, i, s, ho, h => by
    rw [subRs] at h
    have hlr := psR_len r n own
    have hsl := subR_len r
    have hnl := nsR_len r
    by_cases e : i < sizeR r
    · rw [List.getElem?_append_left (by omega)] at h
      obtain ⟨h1, h2, h3, h4⟩ := psR_int r n own i s h
      refine ⟨by rw [sizeRs]; omega, fun j a b => ?_, fun j a b => ?_, ?_⟩
      · rw [psRs, gi_app_l _ (by omega)]; exact h2 j a b
      · by_cases ej : j < sizeR r
        · rw [psRs, gi_app_l _ (by omega)]; exact h3 j a ej
        · obtain ⟨m, rfl⟩ : ∃ m, j = sizeR r + m := ⟨j - sizeR r, by omega⟩
          rw [sizeRs] at b
          have hg : gi (psRs (r :: rs) own n) (sizeR r + m) = gi (psRs rs own (n + sizeR r)) m := by rw [psRs, ← hlr]; exact gi_app_r _ _ _
          rw [hg]
          have hm : gi (psRs rs own (n + sizeR r)) m ∈ psRs rs own (n + sizeR r) := by
            have : m < (psRs rs own (n + sizeR r)).length := by rw [psRs_len]; omega
            simp [gi, this]
          rcases psRs_bd rs own (n + sizeR r) _ hm with q | ⟨q, _⟩
          · left; omega
          · right; omega
      · rw [nsRs, List.drop_append_of_le_length (by omega), h4, List.append_assoc, List.drop_append_of_le_length (by omega)]
    · rw [List.getElem?_append_right (by omega), hsl] at h
      obtain ⟨h1, h2, h3, h4⟩ := psRs_int rs own (n + sizeR r) (i - sizeR r) s (by omega) h
      have hg : ∀ m, gi (psRs (r :: rs) own n) (sizeR r + m) = gi (psRs rs own (n + sizeR r)) m := fun m => by rw [psRs, ← hlr]; exact gi_app_r _ _ _
      refine ⟨by rw [sizeRs]; omega, fun j a b => ?_, fun j a b => ?_, ?_⟩
      · obtain ⟨m, rfl⟩ : ∃ m, j = sizeR r + m := ⟨j - sizeR r, by omega⟩
        rw [hg]
        have := h2 m (by omega) (by omega); omega
      · obtain ⟨m, rfl⟩ : ∃ m, j = sizeR r + m := ⟨j - sizeR r, by omega⟩
        rw [hg]
        rw [sizeRs] at b
        have := h3 m (by omega) (by omega); omega
      · obtain ⟨q, rfl⟩ : ∃ q, i = sizeR r + q := ⟨i - sizeR r, by omega⟩
        rw [show sizeR r + q - sizeR r = q by omega] at h4
        have hd : ∀ q, (nsRs (r :: rs)).drop (sizeR r + q) = (nsRs rs).drop q := fun q => by
          rw [nsRs, ← hnl, ← List.drop_drop, List.drop_left']; rfl
        rw [hd, h4, show sizeR r + q + sizeR s = sizeR r + (q + sizeR s) by omega, hd]
end
theorem hit_flat {r : RT} {i : Nat} {s : RT} (h : (subR r)[i]? = some s) : ∀ {j : Nat}, j < sizeR r → hitB (flat r).ps i j = decide (i ≤ j ∧ j < i + sizeR s) := by
  obtain ⟨h1, h2, h3, _⟩ := psR_int r 0 (-1) i s h
  have hp := pOk_flat r
  have hs := sizeR_pos s
  have hl := flat_ps r
  intro j
  induction j using Nat.strongRecOn with
  | ind j ih =>
    intro hj
    by_cases e : i < j
    · have hpar := pOkB_par hp (show j < (flat r).ps.length by omega) (by omega)
      rw [hit_step hp (by omega) e, ih _ (by omega) (by omega)]
      have hps : (flat r).ps = psR r 0 (-1) := rfl
      rw [hps] at hpar ⊢
      by_cases e2 : j < i + sizeR s
      · have := h2 j e e2
        rw [decide_eq_true (by omega), decide_eq_true (by omega)]
      · have := h3 j (by omega) hj
        rw [decide_eq_false (by omega), decide_eq_false (by omega)]
    · unfold hitB
      rw [climb_stop e]
      by_cases e2 : j = i
      · subst e2; rw [decide_eq_true rfl, decide_eq_true (by omega)]
      · rw [decide_eq_false e2, decide_eq_false (by omega)]
/-- The names of one letter among names, as numbers. -/
def oneN (l : List ByteArray) : List Int := (l.filter fun s => decide (s.size = 1)).map lvNum
theorem oneN_app (a b : List ByteArray) : oneN (a ++ b) = oneN a ++ oneN b := by unfold oneN; rw [List.filter_append, List.map_append]
theorem lvK_in {r : RT} {i : Nat} {s : RT} (h : (subR r)[i]? = some s) : ∀ m, m ≤ sizeR s → lvK (flat r) i m = oneN ((nsR s).take m)
  | 0, _ => by simp [lvK, oneN]
  | m + 1, hm => by
    obtain ⟨h1, _, _, h4⟩ := psR_int r 0 (-1) i s h
    have hsl := nsR_len s
    rw [lvK, lvK_in h m (by omega), List.take_succ_eq_append_getElem (show m < (nsR s).length by omega), oneN_app]
    congr 1
    have hh := hit_flat h (show i + m < sizeR r by omega)
    rw [decide_eq_true (by omega)] at hh
    have hg : gs (flat r).ns (i + m) = (nsR s)[m]'(by omega) := by
      have h5 : (nsR r)[i + m]? = (nsR s)[m]? := by
        rw [← List.getElem?_drop, h4, List.getElem?_append_left (by omega)]
      show (nsR r).getD (i + m) _ = _
      rw [List.getD_eq_getElem?_getD, h5, List.getElem?_eq_getElem (by omega)]; rfl
    unfold lvOne
    rw [hh, hg, Bool.true_and]
    unfold oneN
    by_cases e : ((nsR s)[m]'(by omega)).size = 1
    · rw [if_pos (by simpa using e), List.filter_cons_of_pos (by simpa using e)]; rfl
    · rw [if_neg (by simpa using e), List.filter_cons_of_neg (by simpa using e)]; rfl
theorem lvK_out {r : RT} {i : Nat} {s : RT} (h : (subR r)[i]? = some s) : ∀ m, sizeR s ≤ m → i + m ≤ sizeR r → lvK (flat r) i m = oneN (nsR s)
  | 0, h1, _ => by have := sizeR_pos s; omega
  | m + 1, h1, h2 => by
    by_cases e : sizeR s = m + 1
    · rw [lvK_in h (m + 1) (by omega), List.take_of_length_le (by rw [nsR_len]; omega)]
    · rw [lvK, lvK_out h m (by omega) (by omega)]
      have hh := hit_flat h (show i + m < sizeR r by omega)
      rw [decide_eq_false (by omega)] at hh
      unfold lvOne
      rw [hh]; simp
theorem lvK_flat {r : RT} {i : Nat} {s : RT} (h : (subR r)[i]? = some s) : lvK (flat r) i ((flat r).ps.length - i) = oneN (nsR s) := by
  have h1 := (psR_int r 0 (-1) i s h).1
  have := sizeR_pos s
  rw [flat_ps]
  exact lvK_out h _ (by omega) (by omega)
end Go.Proofs.Ytkfndaebmbnmaaa
