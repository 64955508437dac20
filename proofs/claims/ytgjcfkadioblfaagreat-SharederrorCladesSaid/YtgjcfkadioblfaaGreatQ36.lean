/- SharederrorClades, plain: the groups of the nodes have no conflict; their tree is the tree without nodes that have one child. SharederrorClades, plain: Restrict keeps the whole tree, Consistent finds every group. The walk of phylotree.Restrict. -/
import Derived.Test.YtgjcfkadioblfaaGreatQ34
import Derived.Test.YtgjcfkadioblfaaGreatQ35
import Derived.Test.YtgjcfkadioblfaaGreatQ23
namespace Go.Proofs.YtgjcfkadioblfaaGreat
theorem srcOk_of {l : List Int} (h : l.Pairwise (· < ·)) (h0 : ∀ x ∈ l, 0 ≤ x ∧ x < 32) (hn : l ≠ []) : srcOk l = true := by
  unfold srcOk
  rw [Bool.and_eq_true, Bool.not_eq_true', decide_eq_true_eq]
  refine ⟨?_, List.length_pos_iff.2 hn⟩
  cases hb : (List.range l.length).any (srcBad l) with
  | false => rfl
  | true =>
    obtain ⟨k, hk, e⟩ := List.any_eq_true.1 hb
    have hk := List.mem_range.1 hk
    unfold srcBad at e
    rw [Bool.or_eq_true, Bool.or_eq_true, Bool.and_eq_true, decide_eq_true_eq, decide_eq_true_eq, decide_eq_true_eq, decide_eq_true_eq] at e
    have h1 := h0 _ (gi_mem hk)
    rcases e with (e | e) | ⟨e1, e2⟩
    · omega
    · omega
    · have := List.pairwise_iff_getElem.1 h (k - 1) k (by omega) hk (by omega)
      have g1 : gi l k = l[k] := by simp [gi, hk]
      have g2 : gi l (k - 1) = l[k - 1] := by simp [gi, show k - 1 < l.length by omega]
      omega
section
variable {t : Tre}
theorem cl_len (t : Tre) : (clL t).length = t.ps.length := by simp [clL]
theorem cl_gg {k : Nat} (hk : k < t.ps.length) : gg (clL t) k = ⟨(k : Int), 0, lvL (uT t) k⟩ := by simp [clL, gg, hk]
theorem clN_le (h : treeErr t = 0) : clN t ≤ t.ps.length := by
  obtain ⟨_, _, hl, _, _⟩ := treeErr_zero h
  have := cntN_le t.ns t.ns.length
  unfold clN; omega
theorem lv_rng (h : treeErr t = 0) (h16 : t.ps.length ≤ 16) {i : Nat} (hi : i < t.ps.length) : ∀ x ∈ lvL (uT t) i, 0 ≤ x ∧ x < (clN t : Int) := fun x hx => by
  obtain ⟨_, _, hl, _, _⟩ := treeErr_zero h
  obtain ⟨j, hj, _, hs, rfl⟩ := (mem_lv h h16 hi).1 hx
  have := cntN_lt (show j < t.ns.length by omega) hs
  unfold clN; omega
theorem lv_ne (h : treeErr t = 0) (h16 : t.ps.length ≤ 16) {i : Nat} (hi : i < t.ps.length) : lvL (uT t) i ≠ [] := fun e => by
  obtain ⟨j, h1, h2, h3⟩ := leaf_below h _ i (Nat.le_refl _) hi
  have := (mem_lv h h16 hi).2 ⟨j, h1, h2, h3, rfl⟩
  rw [e] at this; cases this
theorem lv_ok (h : treeErr t = 0) (h16 : t.ps.length ≤ 16) {i : Nat} (hi : i < t.ps.length) : srcOk (lvL (uT t) i) = true :=
  srcOk_of (lv_asc h h16 hi) (fun x hx => by have := lv_rng h h16 hi x hx; have := clN_le h; omega) (lv_ne h h16 hi)
theorem cl_gc (h : treeErr t = 0) (h16 : t.ps.length ≤ 16) : gcErr (clL t) = 0 := by
  unfold gcErr
  rw [cl_len, if_neg (by omega), if_neg]
  intro q
  obtain ⟨k, hk, e⟩ := List.any_eq_true.1 q
  have hk := List.mem_range.1 hk
  unfold gBad at e
  rw [cl_gg hk, lv_ok h h16 hk] at e
  simp at e
  omega
theorem lv_max (h : treeErr t = 0) (h16 : t.ps.length ≤ 16) {i : Nat} (hi : i < t.ps.length) : mxL (lvL (uT t) i) < (clN t : Int) := by
  rw [last_mx (lv_ok h h16 hi)]
  exact (lv_rng h h16 hi _ (gi_mem (by have := List.length_pos_iff.2 (lv_ne h h16 hi); omega))).2
theorem cl_far (h : treeErr t = 0) (h16 : t.ps.length ≤ 16) : farB (clL t) (clN t) = false := by
  unfold farB
  cases hb : (List.range (clL t).length).any fun k => decide ((clN t : Int) ≤ mxL (gg (clL t) k).src) with
  | false => rfl
  | true =>
    obtain ⟨k, hk, e⟩ := List.any_eq_true.1 hb
    have hk := List.mem_range.1 hk
    rw [cl_len] at hk
    have e := of_decide_eq_true e
    rw [cl_gg hk] at e
    have := lv_max h h16 hk
    exact absurd e (by show ¬ ((clN t : Int) ≤ mxL (lvL (uT t) k)); omega)
/-- The leaves of two nodes are nested or apart. -/
theorem lv_lam (h : treeErr t = 0) (h16 : t.ps.length ≤ 16) {i k : Nat} (hi : i < t.ps.length) (hk : k < t.ps.length) (hik : i ≤ k) : (∀ x ∈ lvL (uT t) k, x ∈ lvL (uT t) i) ∨ ∀ x ∈ lvL (uT t) i, x ∉ lvL (uT t) k := by
  obtain ⟨_, _, hl, hok, _⟩ := treeErr_zero h
  by_cases c : hitB t.ps i k = true
  · refine .inl fun x hx => ?_
    obtain ⟨j, h1, h2, h3, e⟩ := (mem_lv h h16 hk).1 hx
    exact (mem_lv h h16 hi).2 ⟨j, h1, hit_trans hok hk c j j (Nat.le_refl _) h1 h2, h3, e⟩
  · refine .inr fun x hx hx2 => c ?_
    obtain ⟨j, h1, h2, h3, e⟩ := (mem_lv h h16 hi).1 hx
    obtain ⟨j2, g1, g2, g3, e2⟩ := (mem_lv h h16 hk).1 hx2
    have := cntN_inj h3 g3 (by omega)
    subst this
    exact hit_chain hok hik j j (Nat.le_refl _) h1 h2 g2
theorem cl_cf (h : treeErr t = 0) (h16 : t.ps.length ≤ 16) : cfL (clL t) = [] := by
  unfold cfL
  rw [if_pos (cl_gc h h16)]
  unfold cfK
  rw [List.flatMap_eq_nil_iff]
  intro i hi
  have hi := List.mem_range.1 hi
  rw [cl_len] at hi
  unfold cfRow
  rw [List.map_eq_nil_iff, List.filter_eq_nil_iff]
  intro k hk e
  have hk := List.mem_range.1 hk
  rw [cl_len] at hk
  rw [Bool.and_eq_true, decide_eq_true_eq] at e
  obtain ⟨hik, e⟩ := e
  unfold cfB at e
  rw [cl_gg hi, cl_gg hk] at e
  rw [show (⟨(i : Int), 0, lvL (uT t) i⟩ : Grp).src = lvL (uT t) i from rfl, show (⟨(k : Int), 0, lvL (uT t) k⟩ : Grp).src = lvL (uT t) k from rfl, conf_lists (srcOk_small (lv_ok h h16 hi)).1 (srcOk_small (lv_ok h h16 hk)).1, Bool.and_eq_true, Bool.and_eq_true, lacksB_iff, lacksB_iff, commonB_iff] at e
  obtain ⟨⟨_, x, hx, hxn⟩, y, hy, hyk⟩ := e
  rcases lv_lam h h16 hi hk (Nat.le_of_lt hik) with q | q
  · exact hxn (q x hx)
  · exact q y hy hyk
theorem cl_sh (h : treeErr t = 0) (h16 : t.ps.length ≤ 16) : shErr (namesA (clN t)) (clL t) = 0 := by
  have hle := clN_le h
  obtain ⟨hp, _, hl, _, _⟩ := treeErr_zero h
  have hpos : 0 < clN t := by
    obtain ⟨j, h1, _, h3⟩ := leaf_below h _ 0 (Nat.le_refl _) hp
    have := cntN_lt (show j < t.ns.length by omega) h3
    unfold clN; omega
  have hnm : firstNZ (nmErr (namesA (clN t))) (clN t) = 0 := firstNZ_zero fun k hk => by
    unfold nmErr
    rw [gs_namesA hk, if_neg (by rw [nmLt_named2 k (by omega)]; decide), if_neg]
    intro e
    obtain ⟨j, hj, e⟩ := List.any_eq_true.1 e
    have hj : j < k := List.mem_range.1 hj
    rw [gs_namesA (show j < clN t by omega)] at e
    have := nmLt_inj2 k (by omega) j (by omega) (of_decide_eq_true e)
    omega
  unfold shErr
  rw [namesA_len, if_neg (by omega), if_neg (by omega), if_neg (by rw [hnm]; simp), if_neg (by rw [cl_gc h h16]; simp), cl_far h h16, if_neg (by simp), if_neg (by rw [cl_cf h h16]; simp)]
/-- The leaves of the rose tree below a node. -/
theorem u_lv (h : treeErr t = 0) (h16 : t.ps.length ≤ 16) {i : Nat} (hi : i < t.ps.length) : Lv (namesA (clN t)) (toRF (frT (uT t)) (rkT (uT t)) i) (lvL (uT t) i) := fun y => by
  have hu := uT_err h h16
  have hw := (frT_arb hu).wf
  obtain ⟨_, _, hl, _, _⟩ := treeErr_zero h
  have hn : ∀ j, j < t.ps.length → (gs t.ns j).size ≠ 0 → gs (namesA (clN t)) (cntN t.ns j) = gs (uT t).ns j := fun j hj hs => by
    rw [gs_namesA (show cntN t.ns j < clN t from cntN_lt (show j < t.ns.length by omega) hs), uT_nm (by omega) hs]
  unfold leafR
  rw [List.mem_filter, nsR_sub, subR_toRF hw hi (Nat.le_refl _), List.map_map, List.mem_map]
  constructor
  · rintro ⟨⟨j, hj, rfl⟩, hs⟩
    have hsub := (mem_nodesF hw hi (Nat.le_refl _)).1 hj
    have hjn : j < t.ps.length := subF_lt hw hi (Nat.le_refl _) hsub
    rw [Function.comp, toRF_nm hw hjn] at hs ⊢
    have hs : (gs (uT t).ns j).size ≠ 0 := of_decide_eq_true hs
    obtain ⟨_, hs2⟩ := uT_size.1 hs
    rw [sub_hit hu _ i j (Nat.le_refl _) hi hjn] at hsub
    exact ⟨cntN t.ns j, (mem_lv h h16 hi).2 ⟨j, hjn, hsub, hs2, rfl⟩, (hn j hjn hs2).symm⟩
  · rintro ⟨b, hb, rfl⟩
    obtain ⟨j, hjn, hh, hs, e⟩ := (mem_lv h h16 hi).1 hb
    have : b = cntN t.ns j := by omega
    subst this
    rw [hn j hjn hs]
    refine ⟨⟨j, (mem_nodesF hw hi (Nat.le_refl _)).2 (by rw [sub_hit hu _ i j (Nat.le_refl _) hi hjn]; exact hh), toRF_nm hw hjn⟩, decide_eq_true (uT_size.2 ⟨by omega, hs⟩)⟩
theorem lv_all (h : treeErr t = 0) (h16 : t.ps.length ≤ 16) : lvL (uT t) 0 = allI (clN t) := by
  obtain ⟨hp, _, hl, hok, _⟩ := treeErr_zero h
  refine asc_eq (lv_asc h h16 hp) ?_ (fun x hx => mem_allI.2 (lv_rng h h16 hp x hx)) fun x hx => ?_
  · unfold allI
    rw [List.pairwise_map]
    exact List.pairwise_lt_range.imp fun h => Int.ofNat_lt.2 h
  · obtain ⟨h0, h1⟩ := mem_allI.1 hx
    obtain ⟨b, rfl⟩ : ∃ b : Nat, x = b := ⟨x.toNat, by omega⟩
    obtain ⟨j, hj, hs, rfl⟩ := cntN_ex t.ns (show b < cntN t.ns t.ns.length by unfold clN at h1; omega)
    have hjn : j < t.ps.length := by omega
    refine (mem_lv h h16 hp).2 ⟨j, hjn, ?_, hs, rfl⟩
    rw [← sub_hit h _ 0 j (Nat.le_refl _) hp hjn]
    exact all_below h j j (Nat.le_refl _) hjn
theorem lv_set (h : treeErr t = 0) (h16 : t.ps.length ≤ 16) {i : Nat} (hi : i < t.ps.length) : lvL (uT t) i ∈ setsL (clN t) (clL t) := by
  have hsh := shErr_ok (cl_sh h h16)
  have hpos := hsh.pos
  rw [namesA_len] at hpos
  rw [mem_setsL hpos]
  have hasc := lv_asc h h16 hi
  have nd : (lvL (uT t) i).Nodup := hasc.imp fun h => by omega
  have hsub : ∀ x ∈ lvL (uT t) i, x ∈ allI (clN t) := fun x hx => mem_allI.2 (lv_rng h h16 hi x hx)
  have hle := nd.length_le_of_subset (l₂ := allI (clN t)) hsub
  rw [allI_len] at hle
  have hl0 := List.length_pos_iff.2 (lv_ne h h16 hi)
  have hall : (lvL (uT t) i).length = clN t → lvL (uT t) i = allI (clN t) := fun e => by
    have hp := perm_subI nd hsub (by rw [allI_len]; omega)
    refine asc_eq hasc ?_ hsub fun x hx => hp.mem_iff.2 hx
    unfold allI
    rw [List.pairwise_map]
    exact List.pairwise_lt_range.imp fun h => Int.ofNat_lt.2 h
  by_cases c1 : (lvL (uT t) i).length = clN t
  · exact .inl (hall c1)
  · by_cases c2 : (lvL (uT t) i).length = 1
    · obtain ⟨x, hx⟩ := List.length_eq_one_iff.1 c2
      have h1 := lv_rng h h16 hi x (by rw [hx]; simp)
      exact .inr (.inr ⟨by omega, x.toNat, by omega, by rw [hx]; congr 1; omega⟩)
    · exact .inr (.inl ⟨i, by rw [cl_len]; exact hi, by rw [cl_gg hi], by omega, by omega⟩)
end
/-- A part of the contracted tree for each part. -/
theorem contr_sub : ∀ (d : Nat) (r u : RT), sizeR r ≤ d → u ∈ subR r → contrR u ∈ subR (contrR r)
  | 0, r, _, hd, _ => by have := sizeR_pos r; omega
  | d + 1, .node nm ks, u, hd, h => by
    rw [subR, List.mem_cons] at h
    rcases h with rfl | h
    · exact subR_self _
    · obtain ⟨k, hk, hs⟩ := mem_subRs_ex h
      have ih := contr_sub d k u (by have := size_kid (nm := nm) hk; omega) hs
      by_cases h1 : ks.length = 1
      · obtain ⟨q, rfl⟩ := List.length_eq_one_iff.1 h1
        have : k = q := by simpa using hk
        subst this
        rw [contr_one]; exact ih
      · rw [contr_many h1]
        exact subR_trans _ (mem_kid (List.mem_map.2 ⟨k, hk, rfl⟩)) ih
section
variable {t : Tre}
theorem contr_lv (h : treeErr t = 0) (h16 : t.ps.length ≤ 16) {i : Nat} (hi : i < t.ps.length) : Lv (namesA (clN t)) (contrR (toRF (frT (uT t)) (rkT (uT t)) i)) (lvL (uT t) i) := fun y => by
  have hu := uT_err h h16
  have hg := good_toR hu
  obtain ⟨hp, _, _, _, _⟩ := treeErr_zero h
  have hpart := rose_part (frT_arb hu).wf hp (all_below hu i i (Nat.le_refl _) hi)
  rw [leaf_contr _ _ (Nat.le_refl _) fun s hs => hg.inn s (subR_trans _ hpart hs)]
  exact u_lv h h16 hi y
/-- The tree of the groups is the tree, contracted and sorted. -/
theorem clades_tree (h : treeErr t = 0) (h16 : t.ps.length ≤ 16) : shTree (namesA (clN t)) (clL t) = flat (sortR (contrR (toR (uT t)))) ∧ shRes (namesA (clN t)) (clL t) = 0 := by
  have h0 := cl_sh h h16
  have hsh := shErr_ok h0
  have hu := uT_err h h16
  have hw := (frT_arb hu).wf
  obtain ⟨hp, _, _, _, _⟩ := treeErr_zero h
  have hg := good_toR hu
  refine ⟨?_, (shTree_law h0).2.2.2⟩
  rw [shTree_fin h0]
  congr 1
  obtain ⟨g1, g2, g3⟩ := finR_ok h0
  have hr : OkU (finR (namesA (clN t)) (clL t)) := ⟨g1.nodup_iff.2 (names_nodup hsh), g2⟩
  have hset : setsL (namesA (clN t)).length (clL t) = setsL (clN t) (clL t) := by rw [namesA_len]
  have f1 := fin_sub h0
  have f2 := fin_has h0
  rw [hset] at f1 f2
  have a1 : ∀ s ∈ subR (contrR (toR (uT t))), ∃ x ∈ setsL (clN t) (clL t), Lv (namesA (clN t)) s x := fun s hs => by
    obtain ⟨u, hu1, hu2, rfl⟩ := sub_contr _ _ s (Nat.le_refl _) hs
    rw [subR_toR hu] at hu1
    obtain ⟨j, hj, rfl⟩ := List.mem_map.1 hu1
    have hj : j < t.ps.length := mem_nodes_lt hu hj
    refine ⟨_, lv_set h h16 hj, ?_⟩
    have e : contrR (toRF (frT (uT t)) (rkT (uT t)) j) = .node (toRF (frT (uT t)) (rkT (uT t)) j).nm ((toRF (frT (uT t)) (rkT (uT t)) j).kids.map contrR) := by
      cases hr : toRF (frT (uT t)) (rkT (uT t)) j with
      | node nm ks => rw [hr] at hu2; exact contr_many hu2
    rw [← e]
    exact contr_lv h h16 hj
  have a2 : ∀ x ∈ setsL (clN t) (clL t), ∃ s ∈ subR (contrR (toR (uT t))), Lv (namesA (clN t)) s x := fun x hx => by
    have hpos := hsh.pos
    rw [namesA_len] at hpos
    have key : ∀ i, i < t.ps.length → ∃ s ∈ subR (contrR (toR (uT t))), Lv (namesA (clN t)) s (lvL (uT t) i) := fun i hi =>
      ⟨_, contr_sub _ _ _ (Nat.le_refl _) (rose_part hw hp (all_below hu i i (Nat.le_refl _) hi)), contr_lv h h16 hi⟩
    rcases (mem_setsL hpos).1 hx with rfl | ⟨i, hi, rfl, _, _⟩ | ⟨_, b, hb, rfl⟩
    · rw [← lv_all h h16]; exact key 0 hp
    · rw [cl_len] at hi
      rw [cl_gg hi]; exact key i hi
    · have hb2 : b < (namesA (clN t)).length := by rw [namesA_len]; exact hb
      have hl := contr_lv h h16 hp (gs (namesA (clN t)) b)
      rw [lv_all h h16] at hl
      have hm := hl.2 ⟨b, mem_allI.2 (by omega), rfl⟩
      exact ⟨_, leaf_part (oku_contr hg).pt hm, lv_leaf hsh hb2⟩
  rw [← g3]
  exact uniq_sort _ _ _ (Nat.le_refl _) hr (oku_contr hg) (fam_lv f1 a2) (fam_lv a1 f2)
end
end Go.Proofs.YtgjcfkadioblfaaGreat
namespace Go.Proofs.YtgjcfkadioblfaaGreat
theorem toRF_cong {F G : Frs} {n : Nat} {rk : Nat → Nat} (hF : Wf F n rk) (hG : Wf G n rk) (hk : ∀ z, z < n → G.kids z = F.kids z) (hm : G.nm = F.nm) : ∀ (d i : Nat), rk i ≤ d → i < n → toRF G rk i = toRF F rk i
  | d, i, hd, hi => by
    rw [toRF_eq hF hi, toRF_eq hG hi, hk i hi, hm]
    congr 1
    refine List.map_congr_left fun k hk2 => ?_
    have hkk := hF.kid i hi k hk2
    cases d with
    | zero => omega
    | succ d => exact toRF_cong hF hG hk hm d k (by omega) hkk.1
theorem leavesL_asc (ns : List ByteArray) : (leavesL ns).Pairwise (· < ·) := by
  unfold leavesL
  rw [List.pairwise_map]
  exact (List.Pairwise.filter _ List.pairwise_lt_range).imp fun h => Int.ofNat_lt.2 h
section
variable {t : Tre}
/-- All leaves kept: nothing is lost. -/
theorem rs_all (h : treeErr t = 0) : rsErr t (leavesL t.ns) = 0 ∧ rsR t (leavesL t.ns) = toR t := by
  obtain ⟨hp, _, hl, hok, hne⟩ := treeErr_zero h
  have hw := (frT_arb h).wf
  constructor
  · unfold rsErr
    have hz : ¬ (leavesL t.ns).length = 0 := fun e => by
      obtain ⟨j, h1, _, h3⟩ := leaf_below h _ 0 (Nat.le_refl _) hp
      have : (j : Int) ∈ leavesL t.ns := mem_leavesL.2 ⟨j, rfl, by omega, h3⟩
      rw [List.eq_nil_of_length_eq_zero e] at this; cases this
    rw [if_neg (by simp [h]), if_neg hz]
    refine firstNZ_zero fun k hk => ?_
    obtain ⟨q, hq, hqn, hqs⟩ := mem_leavesL.1 (gi_mem hk)
    unfold rsE
    rw [hq, if_neg (by omega), if_neg (by simpa using hqs), if_neg]
    rintro ⟨k0, hle⟩
    have := List.pairwise_iff_getElem.1 (leavesL_asc t.ns) (k - 1) k (by omega) hk (by omega)
    have g1 : gi (leavesL t.ns) k = (leavesL t.ns)[k] := by simp [gi, hk]
    have g2 : gi (leavesL t.ns) (k - 1) = (leavesL t.ns)[k - 1] := by simp [gi, show k - 1 < (leavesL t.ns).length by omega]
    omega
  · have hal : ∀ d z, rkT t z ≤ d → z < t.ps.length → al (frT t) (rsP (leavesL t.ns)) (rkT t) z = true := by
      intro d
      induction d with
      | zero => intro z hd hz; unfold rkT at hd; omega
      | succ d ih =>
        intro z hd hz
        rw [al_eq hw hz]
        by_cases c : (frT t).kids z = []
        · rw [if_pos c]
          unfold rsP
          refine decide_eq_true (mem_leavesL.2 ⟨z, rfl, by omega, ?_⟩)
          have hin : isIn t.ps z = false := by
            cases hb : isIn t.ps z with
            | false => rfl
            | true =>
              unfold isIn inK at hb
              obtain ⟨k, hk, e⟩ := List.any_eq_true.1 hb
              have hk : k < t.ps.length := List.mem_range.1 hk
              rw [Bool.and_eq_true, decide_eq_true_eq, beq_iff_eq] at e
              obtain ⟨p0, p1⟩ := pOkB_par hok hk e.1
              have : k ∈ (frT t).kids z := by rw [frT_kids]; exact mem_kidsL.2 ⟨hk, by omega, e.2⟩
              rw [c] at this; cases this
          exact named_size (nErr_leaf (hne z hz) hin).1
        · rw [if_neg c]
          obtain ⟨k, hk⟩ := List.exists_mem_of_ne_nil _ c
          have hkk := hw.kid z hz k hk
          exact List.any_eq_true.2 ⟨k, hk, ih k (by omega) hkk.1⟩
    refine toRF_cong hw (pr_wf hw 0) (fun z hz => ?_) rfl _ 0 (Nat.le_refl _) hp
    rw [pr_kids (all_below h z z (Nat.le_refl _) hz), List.filter_eq_self]
    exact fun k hk => hal _ k (Nat.le_refl _) (hw.kid z hz k hk).1
theorem clades_rs (h : treeErr t = 0) (h16 : t.ps.length ≤ 16) : rsErr (uT t) (leavesL (uT t).ns) = 0 ∧ rsT (uT t) (leavesL (uT t).ns) = shTree (namesA (clN t)) (clL t) := by
  obtain ⟨h1, h2⟩ := rs_all (uT_err h h16)
  refine ⟨h1, ?_⟩
  unfold rsT
  rw [if_neg (by simp [h1]), h2, (clades_tree h h16).1]
theorem leaves_cnt (ns : List ByteArray) : ∀ k, ((List.range k).filter fun i => decide ((gs ns i).size ≠ 0)).length = cntN ns k
  | 0 => rfl
  | k + 1 => by
    rw [List.range_succ, List.filter_append, List.length_append, leaves_cnt ns k, cntN]
    congr 1
    by_cases c : (gs ns k).size ≠ 0
    · rw [if_pos c, List.filter_cons_of_pos (by simpa using c)]; rfl
    · rw [if_neg c, List.filter_cons_of_neg (by simpa using c)]; rfl
theorem cntN_cong {a b : List ByteArray} : ∀ {k : Nat}, (∀ j, j < k → ((gs a j).size ≠ 0 ↔ (gs b j).size ≠ 0)) → cntN a k = cntN b k
  | 0, _ => rfl
  | k + 1, h => by
    rw [cntN, cntN, cntN_cong fun j hj => h j (by omega)]
    congr 1
    by_cases c : (gs b k).size ≠ 0
    · rw [if_pos c, if_pos ((h k (by omega)).2 c)]
    · rw [if_neg c, if_neg fun q => c ((h k (by omega)).1 q)]
theorem u_leaves (t : Tre) : (leavesL (uT t).ns).length = clN t := by
  unfold leavesL clN
  rw [List.length_map, uT_len, leaves_cnt]
  exact cntN_cong fun j hj => ⟨fun h => (uT_size.1 h).2, fun h => uT_size.2 ⟨hj, h⟩⟩
theorem clades_con (h : treeErr t = 0) (h16 : t.ps.length ≤ 16) : conErr (uT t) (namesA (clN t)) (clL t) = 0 ∧ conL (uT t) (namesA (clN t)) (clL t) = [] := by
  have h0 := cl_sh h h16
  have hsh := shErr_ok h0
  have hu := uT_err h h16
  obtain ⟨hp, _, hl, hok, _⟩ := treeErr_zero h
  have hlen : (leavesL (uT t).ns).length = (namesA (clN t)).length := by rw [u_leaves, namesA_len]
  have hix : ∀ j, j < t.ps.length → (gs t.ns j).size ≠ 0 → nmIx (namesA (clN t)) (gs (uT t).ns j) = cntN t.ns j := fun j hj hs => by
    have hc : cntN t.ns j < clN t := cntN_lt (show j < t.ns.length by omega) hs
    rw [uT_nm (by omega) hs, ← gs_namesA hc]
    exact nmIx_gs hsh (by rw [namesA_len]; exact hc)
  have hcs : ∀ j, j < (namesA (clN t)).length → csBad (uT t) (namesA (clN t)) j = false := fun j hj => by
    obtain ⟨q, hq, hqn, hqs⟩ := mem_leavesL.1 (gi_mem (l := leavesL (uT t).ns) (k := j) (by omega))
    obtain ⟨hqn2, hqs2⟩ := uT_size.1 hqs
    have hc : cntN t.ns q < clN t := cntN_lt hqn2 hqs2
    unfold csBad
    rw [hq, show ((q : Nat) : Int).toNat = q by omega]
    have h1 : ((mpL (namesA (clN t))).lookup (gs (uT t).ns q)).isSome = true := mpK_some.2 ⟨cntN t.ns q, by rw [namesA_len]; exact hc, by rw [gs_namesA hc, uT_nm hqn2 hqs2]⟩
    rw [h1, mpL_nodup hsh]; simp
  have he : conErr (uT t) (namesA (clN t)) (clL t) = 0 := by
    rw [con_tail hu hlen hcs, if_neg (by rw [cl_gc h h16]; simp), namesA_len, cl_far h h16]; rfl
  refine ⟨he, ?_⟩
  unfold conL
  rw [if_neg (by rw [he]; simp)]
  have key : ∀ k, k ≤ t.ps.length → conK (uT t) (namesA (clN t)) (clL t) k = [] := by
    intro k
    induction k with
    | zero => intro _; rfl
    | succ k ih =>
      intro hk
      rw [conK, ih (by omega)]
      unfold conOne
      have hown := own_bits (t := uT t) hok (namesA (clN t))
      have hkn : k < t.ps.length := by omega
      have hmem : ofS (gg (clL t) k).src ∈ ownF (uT t) (namesA (clN t)) := by
        rw [cl_gg hkn]
        have e : gn (ownF (uT t) (namesA (clN t))) k = ofS (lvL (uT t) k) := by
          apply Nat.eq_of_testBit_eq
          intro b
          rw [Bool.eq_iff_iff, hown.2 k hkn b, testBit_ofS (srcOk_small (lv_ok h h16 hkn)).1, mem_lv h h16 hkn]
          constructor
          · rintro ⟨j, h1, h2, h3, h4⟩
            obtain ⟨_, hs⟩ := uT_size.1 h2
            rw [hix j h1 hs] at h4
            exact ⟨j, h1, h3, hs, by omega⟩
          · rintro ⟨j, h1, h2, h3, h4⟩
            exact ⟨j, h1, uT_size.2 ⟨by omega, h3⟩, h2, by rw [hix j h1 h3]; omega⟩
        rw [← show gn (ownF (uT t) (namesA (clN t))) k = ofS (lvL (uT t) k) from e]
        exact gn_mem (by rw [hown.1]; exact hkn)
      rw [if_pos hmem]; rfl
  rw [cl_len]
  exact key _ (Nat.le_refl _)
end
end Go.Proofs.YtgjcfkadioblfaaGreat
namespace Go.Proofs.YtgjcfkadioblfaaGreat
open Go.RowKit Go.Deep
theorem rs_err {w W : World} {B : Nat} {t : Tre} {L : List Int} {c : Int} (hB : w.heap.size ≤ B) (hu : Up w W) (hb : W.heap[B]? = some (Obj.cells #[.slice none 0 0, .slice none 0 0] 25 (0, 0))) (hc : rsErr t L = c) (h0 : c ≠ 0) :
    ((W.setCell ⟨B, 0, none⟩ (.slice none 0 0)).setCell ⟨B, 1, none⟩ (.slice none 0 0)).cell? ⟨B, 0, none⟩ = some (.slice none 0 0) ∧ ((W.setCell ⟨B, 0, none⟩ (.slice none 0 0)).setCell ⟨B, 1, none⟩ (.slice none 0 0)).cell? ⟨B, 1, none⟩ = some (.slice none 0 0) ∧
      RsPost w t L (.returned (.tuple #[.agg #[.slice none 0 0, .slice none 0 0], .int .i64 c])) ((W.setCell ⟨B, 0, none⟩ (.slice none 0 0)).setCell ⟨B, 1, none⟩ (.slice none 0 0)) := by
  obtain ⟨s1, s2, s3, s4⟩ := store_two (p := .slice none 0 0) (q := .slice none 0 0) hb hB hu
  refine ⟨s2, s3, s1, .agg #[.slice none 0 0, .slice none 0 0], by rw [hc], ?_⟩
  unfold rsT; rw [if_pos (by rw [hc]; exact h0)]; exact nil_tree _
set_option maxRecDepth 100000 in
set_option maxHeartbeats 8000000 in
theorem restrict_t (S : Nat → Prop) (w : World) (v vl : Value) (t : Tre) (L : List Int) (hT : TreeAt S w v t) (hL : IntsAt S w vl L) (hp : t.ps.length ≤ 1000000) (hn : t.ns.length ≤ 1000000) (hz : ∀ k, (gs t.ns k).size ≤ 70000) (hll : L.length ≤ 1000000) :
    Calls Tryz.prog 27 #[v, vl] w (RsPost w t L) := by
  obtain ⟨P, N, rfl, hP, hN⟩ := hT
  obtain ⟨pp, pc, rfl, _, _⟩ := SlAt.open hP
  obtain ⟨pn, pm, rfl, _, _⟩ := SlAt.open hN
  obtain ⟨lp, lc, rfl, _, _⟩ := SlAt.open hL
  have hP : IntsAt S w (.slice pp t.ps.length pc) t.ps := hP
  have hN : StrsAt S w (.slice pn t.ns.length pm) t.ns := hN
  have hL : IntsAt S w (.slice lp L.length lc) L := hL
  have ha := Up.alloc w (.cells #[.slice pp t.ps.length pc, .slice pn t.ns.length pm] 25)
  have hb := Up.alloc (w.alloc (.cells #[.slice pp t.ps.length pc, .slice pn t.ns.length pm] 25)) (.cells #[.slice lp L.length lc] 22)
  have hc := Up.alloc ((w.alloc (.cells #[.slice pp t.ps.length pc, .slice pn t.ns.length pm] 25)).alloc (.cells #[.slice lp L.length lc] 22)) (.cells #[.slice none 0 0, .slice none 0 0] 25)
  have HC0 := Lib.hid ((hb.trans hc).cell (box2_0 w (.slice pp t.ps.length pc) (.slice pn t.ns.length pm) 25))
  have HC1 := Lib.hid ((hb.trans hc).cell (box2_1 w (.slice pp t.ps.length pc) (.slice pn t.ns.length pm) 25))
  have hlc := hc.cell (box1_0 (w.alloc (.cells #[.slice pp t.ps.length pc, .slice pn t.ns.length pm] 25)) (.slice lp L.length lc) 22)
  have hrb := box_at (w := (w.alloc (.cells #[.slice pp t.ps.length pc, .slice pn t.ns.length pm] 25)).alloc (.cells #[.slice lp L.length lc] 22)) (P := .slice none 0 0) (N := .slice none 0 0) (T := 25)
  have hsz : (((w.alloc (.cells #[.slice pp t.ps.length pc, .slice pn t.ns.length pm] 25)).alloc (.cells #[.slice lp L.length lc] 22)).alloc (.cells #[.slice none 0 0, .slice none 0 0] 25)).heap.size = w.heap.size + 3 := by simp
  rw [World.size_alloc, World.size_alloc] at hrb
  rw [World.size_alloc] at hlc
  have hu := (ha.trans hb).trans hc
  have HU := Lib.hid hu
  have HT1 : Hid (TreeAt S _ _ t) := TreeAt.keep ⟨_, _, rfl, hP, hN⟩ (hu.kept S)
  have HL1 := Lib.hid (IntsAt.keep hL (hu.kept S))
  have HN1 := Lib.hid (StrsAt.keep hN (hu.kept S))
  have HRB := Lib.hid hrb
  have HLC := Lib.hid hlc
  have HSZ := Lib.hid hsz
  have HZ := Lib.hid hz
  have HRE : Hid (rsErr t L = if treeErr t ≠ 0 then 1 else if L.length = 0 then 5 else firstNZ (rsE t L) L.length) := rfl
  have hc0 := HC0.out
  have hc1 := HC1.out
  have HCK := Lib.hid (check_t S _ _ t HT1.out hp hn hz)
  clear ha hb hc hu hP hN hL hrb hsz hlc hz
  go_enter Tryz.func27, Tryz.ntmps27
  go_wp2_with fail
  generalize ((w.alloc (.cells #[.slice pp t.ps.length pc, .slice pn t.ns.length pm] 25)).alloc (.cells #[.slice lp L.length lc] 22)).alloc (.cells #[.slice none 0 0, .slice none 0 0] 25) = w1 at *
  refine HCK.out.mono ?_
  rintro e w2 ⟨rfl, hu2⟩
  have hu2 : Up w1 w2 := hu2
  have HU2 := Lib.hid hu2
  have HUW := Lib.hid (HU.out.trans hu2)
  have hc0 := hu2.cell HC0.out
  have hc1 := hu2.cell HC1.out
  have hlc := hu2.cell HLC.out
  have hrb2 := (Below.block hu2 (w.heap.size + 2) (by rw [HSZ.out]; omega)).trans HRB.out
  obtain ⟨q0, q1, q2, q3⟩ := boxed hrb2
  have HRB2 := Lib.hid hrb2
  clear hu2 hrb2 HCK
  by_cases he : treeErr t = 0
  · obtain ⟨hp0, hp64, hnl, hok, _⟩ := treeErr_zero he
    have HTE := Lib.hid he
    rw [he]
    have HRE2 : Hid (rsErr t L = if L.length = 0 then 5 else firstNZ (rsE t L) L.length) := by rw [Hid, HRE.out, if_neg (by simp [he])]
    have HNL := Lib.hid hnl
    clear he HRE hnl hok
    by_cases h0 : L.length = 0
    · have d0 : ((L.length : Int) == 0) = true := by rw [h0]; rfl
      have HST := Lib.hid (rs_err (c := 5) (by omega) HUW.out HRB2.out (by rw [HRE2.out, if_pos h0]) (by decide))
      clear h0
      go_wp2_with fail
      obtain ⟨s2, s3, hp⟩ := HST.out
      exact ⟨rfl, .tuple #[.agg #[.slice none 0 0, .slice none 0 0], .int .i64 5], by simp [results, Tryz.results27, go_sem, s2, s3], hp⟩
    · have d0 : ((L.length : Int) == 0) = false := beq_eq_false_iff_ne.2 (by omega)
      have HRE3 : Hid (rsErr t L = firstNZ (rsE t L) L.length) := by rw [Hid, HRE2.out, if_neg h0]
      have HNE : Hid (∀ k c, k < L.length → (∀ j, j < k → rsE t L j = 0) → rsE t L k = c → c ≠ 0 → rsErr t L = c) := fun k c hk hj hc h0 => by
        rw [HRE3.out, firstNZ_at hk hj (by rw [hc]; exact h0), hc]
      have HL0 := Lib.hid h0
      have HL2 := Lib.hid (IntsAt.keep HL1.out (HU2.out.kept S))
      have HN2 := Lib.hid (StrsAt.keep HN1.out (HU2.out.kept S))
      have HEK : Hid (∀ k, rsE t L k = if gi L k < 0 ∨ (t.ps.length : Int) ≤ gi L k then 2 else if (gs t.ns (gi L k).toNat).size = 0 then 8 else if 0 < k ∧ gi L k ≤ gi L (k - 1) then 10 else 0) := fun _ => rfl
      clear h0 HRE2
      go_wp2_with fail
      go_loop [6, 7, 18, 23, 34, 42] (fun _ _ x _ _ _ => ∃ k : Nat, k ≤ L.length ∧ x = .int .i64 k ∧ Hid (∀ j, j < k → rsE t L j = 0)) (fun _ _ x _ _ _ => L.length - (intOf x).toNat)
      case atStart => exact ⟨0, Nat.zero_le _, rfl, fun j hj => absurd hj (Nat.not_lt_zero _)⟩
      case round =>
        obtain ⟨k, hk, rfl, hd⟩ := hrel
        by_cases hlt : k < L.length
        · obtain ⟨lb, lo, rfl, hx⟩ := ints_get HL2.out hlt
          have k1 : (0 : Int) ≤ (k : Int) := by omega
          have k2 : (k : Int) < (L.length : Int) := by omega
          have HK := Lib.hid (HEK.out k)
          have HER := Lib.hid (fun c => HNE.out k c hlt hd.out)
          have HLT := Lib.hid hlt
          have hprev : ∀ h : 0 < k, w2.cell? ⟨lb, lo + (k - 1), none⟩ = some (.int .i64 (gi L (k - 1))) := fun h => ints_get' HL2.out (by omega)
          have HP := Lib.hid hprev
          clear hprev
          by_cases c1 : gi L k < 0
          · have e1 : decide (gi L k < 0) = true := decide_eq_true c1
            have HST := Lib.hid (rs_err (c := 2) (by omega) HUW.out HRB2.out (HER.out 2 (by rw [HK.out, if_pos (.inl c1)]) (by decide)) (by decide))
            clear c1
            go_wp2_with fail
            obtain ⟨s2, s3, hp⟩ := HST.out
            exact ⟨rfl, .tuple #[.agg #[.slice none 0 0, .slice none 0 0], .int .i64 2], by simp [results, Tryz.results27, go_sem, s2, s3], hp⟩
          · have e1 : decide (gi L k < 0) = false := decide_eq_false c1
            by_cases c2 : (t.ps.length : Int) ≤ gi L k
            · have e2 : decide ((t.ps.length : Int) ≤ gi L k) = true := decide_eq_true c2
              have HST := Lib.hid (rs_err (c := 2) (by omega) HUW.out HRB2.out (HER.out 2 (by rw [HK.out, if_pos (.inr c2)]) (by decide)) (by decide))
              clear c1 c2
              go_wp2_with fail
              obtain ⟨s2, s3, hp⟩ := HST.out
              exact ⟨rfl, .tuple #[.agg #[.slice none 0 0, .slice none 0 0], .int .i64 2], by simp [results, Tryz.results27, go_sem, s2, s3], hp⟩
            · have e2 : decide ((t.ps.length : Int) ≤ gi L k) = false := decide_eq_false c2
              obtain ⟨q, hq⟩ : ∃ q : Nat, gi L k = q := ⟨(gi L k).toNat, by omega⟩
              have hqn : q < t.ns.length := by have := HNL.out; omega
              obtain ⟨nb, no, hnb, hxn⟩ := strs_get HN2.out hqn
              have n1 : (0 : Int) ≤ (q : Int) := by omega
              have n2 : (q : Int) < (t.ns.length : Int) := by omega
              have HK2 : Hid (rsE t L k = if (gs t.ns q).size = 0 then 8 else if 0 < k ∧ (q : Int) ≤ gi L (k - 1) then 10 else 0) := by
                rw [Hid, HK.out, if_neg (by omega), hq]; rfl
              rw [hq] at e1 e2 hx
              have e2n : decide (t.ps.length ≤ q) = false := decide_eq_false (by omega)
              have e2p : ¬ t.ps.length ≤ q := by omega
              subst hnb
              clear c1 c2 hq HK
              by_cases c3 : (gs t.ns q).size = 0
              · have e3 : ((gs t.ns q).toList == []) = true := by
                  rw [(toList_nil _).2 c3]; rfl
                have HST := Lib.hid (rs_err (c := 8) (by omega) HUW.out HRB2.out (HER.out 8 (by rw [HK2.out, if_pos c3]) (by decide)) (by decide))
                clear c3
                generalize gs t.ns q = nm at *
                go_wp2_with fail
                obtain ⟨s2, s3, hp⟩ := HST.out
                exact ⟨rfl, .tuple #[.agg #[.slice none 0 0, .slice none 0 0], .int .i64 8], by simp [results, Tryz.results27, go_sem, s2, s3], hp⟩
              · have e3 : ((gs t.ns q).toList == []) = false := by
                  rw [beq_eq_false_iff_ne]
                  exact fun h => c3 ((toList_nil _).1 h)
                by_cases c4 : 0 < k
                · have hx2 := HP.out c4
                  have e4 : decide ((0 : Int) < (k : Int)) = true := decide_eq_true (by omega)
                  have p1 : (0 : Int) ≤ (k : Int) - 1 := by omega
                  have p2 : (k : Int) - 1 < (L.length : Int) := by omega
                  have p3 : ((k : Int) - 1).toNat = k - 1 := by omega
                  by_cases c5 : (q : Int) ≤ gi L (k - 1)
                  · have e5 : decide ((q : Int) ≤ gi L (k - 1)) = true := decide_eq_true c5
                    have HST := Lib.hid (rs_err (c := 10) (by omega) HUW.out HRB2.out (HER.out 10 (by rw [HK2.out, if_neg c3, if_pos ⟨c4, c5⟩]) (by decide)) (by decide))
                    clear c3 c5
                    generalize gs t.ns q = nm at *
                    generalize gi L (k - 1) = pv at *
                    go_wp2_with fail
                    obtain ⟨s2, s3, hp⟩ := HST.out
                    exact ⟨rfl, .tuple #[.agg #[.slice none 0 0, .slice none 0 0], .int .i64 10], by simp [results, Tryz.results27, go_sem, s2, s3], hp⟩
                  · have e5 : decide ((q : Int) ≤ gi L (k - 1)) = false := decide_eq_false c5
                    have HN0 : Hid (∀ j, j < k + 1 → rsE t L j = 0) := fun j hj => if c : j = k then by subst c; rw [HK2.out, if_neg c3, if_neg (by omega)] else hd.out j (by omega)
                    clear c3 c5
                    generalize gs t.ns q = nm at *
                    generalize gi L (k - 1) = pv at *
                    go_wp2_with fail
                    go_round
                    case rel => exact ⟨k + 1, HLT.out, by go_num, HN0⟩
                    case measure => have := HLT.out; simp [intOf]; omega
                · have e4 : decide ((0 : Int) < (k : Int)) = false := decide_eq_false (by omega)
                  have HN0 : Hid (∀ j, j < k + 1 → rsE t L j = 0) := fun j hj => if c : j = k then by subst c; rw [HK2.out, if_neg c3, if_neg (by omega)] else hd.out j (by omega)
                  clear c3
                  generalize gs t.ns q = nm at *
                  go_wp2_with fail
                  go_round
                  case rel => exact ⟨k + 1, HLT.out, by go_num, HN0⟩
                  case measure => have := HLT.out; simp [intOf]; omega
        · obtain rfl : k = L.length := by omega
          have HR0 : Hid (rsErr t L = 0) := by rw [Hid, HRE3.out]; exact firstNZ_zero hd.out
          clear hlt hk hd HNE HRE3
          have HT2 : Hid (TreeAt S w2 (.agg #[.slice pp t.ps.length pc, .slice pn t.ns.length pm]) t) := HT1.out.keep (HU2.out.kept S)
          obtain ⟨_, _, hnl, hok, _⟩ := treeErr_zero HTE.out
          have HND := Lib.hid (nodes_t S w2 _ t HT2.out (by omega) hnl hok HZ.out)
          have HFX := Lib.hid (rs_facts HR0.out)
          clear hnl hok
          go_wp2_with fail
          refine HND.out.mono ?_
          rintro e w3 ⟨hu3, g, A, kv, rfl, hF, hrow⟩
          have hi0 := hrow.cell (i := 0) hp0
          simp only [nptr] at hi0
          have HF3 := Lib.hid hF
          have HU3 := Lib.hid hu3
          have HB3 : Hid (Below w2.heap.size w2 w3) := hu3
          have hpos : (0 : Int) < (t.ps.length : Int) := by omega
          have hlc3 := hu3.cell hlc
          have HLC3 := Lib.hid hlc3
          have HL3 := Lib.hid (IntsAt.keep HL2.out (hu3.kept S))
          have HA := Lib.hid (frT_arb HTE.out)
          have HS2 : Hid (w.heap.size + 3 ≤ w2.heap.size) := by have := HU2.out.size; rw [HSZ.out] at this; exact this
          have HLB : Hid (∀ W, Below w2.heap.size w2 W → W.cell? ⟨w.heap.size + 1, 0, none⟩ = some (.slice lp L.length lc) ∧ IntsAt S W (.slice lp L.length lc) L) := fun W hW => ⟨(show Up w2 W from hW).cell hlc, IntsAt.keep HL2.out ((show Up w2 W from hW).kept S)⟩
          have HPR := Lib.hid (pruned_t 80 #[.pointer (some ⟨w.heap.size + 1, 0, none⟩)] (enters_of Tryz.func80 (by kernel_rfl) rfl) (base := w2.heap.size) (n := t.ps.length) (A := A) (w0 := w2) (o := fun j => (j : Int)) (P := rsP L) (rk := rkT t)
            (fun j W hj hB ho => keep_t S W (A j) (w.heap.size + 1) j _ L hll (HLB.out W hB).1 (HLB.out W hB).2 ho) (rkT t 0) (frT t) 0 kv w3 rfl HA.out.wf (HA.out.dis (fun i _ => rkT_le t i) 0) (fun z hz => by have := frT_kids_len t z; omega) hp0 (Nat.le_refl _) HB3.out hu3.size hF)
          clear hu3 hF hrow hc0 hc1 hlc hlc3 q0 q1 q2 q3 HND
          have HAL := Lib.hid HFX.out.1
          unfold PrPost at HPR
          rw [HAL.out, if_pos rfl] at HPR
          unfold nptr at HPR
          go_wp2_with fail
          refine HPR.out.mono ?_
          rintro e w4 ⟨rfl, kv4, h4⟩
          have HB4 := Lib.hid (HB3.out.trans (h4.up.below HF3.out.lo HU3.out.size))
          have HZ4 : Hid (w2.heap.size ≤ w4.heap.size) := Nat.le_trans HU3.out.size h4.up.size
          have HMD := Lib.hid (made_t (pr_wf HA.out.wf 0) (pr_dis HA.out.wf hp0 (HA.out.dis (fun i _ => rkT_le t i) 0)) (pr_len (fun z hz => by have := frT_kids_len t z; omega) 0) (pr_out HA.out.wf hp0 fun z hz => all_below HTE.out z z (Nat.le_refl _) hz) hp0 HFX.out.2.1
            (Nat.le_trans (size_contr _) (Nat.le_trans HFX.out.2.2.1 (by decide))) HZ4.out h4.fr)
          have HT64 : Hid (¬ 64 < (flat (sortR (contrR (rsR t L)))).ps.length) := by have := HFX.out.2.2.2; unfold Hid; omega
          have HRS : Hid (rsT t L = flat (sortR (contrR (rsR t L)))) := by unfold Hid rsT; rw [if_neg (by simp [HR0.out])]
          have HRR : Hid (toRF ((frT t).sub (rkT t) (prQ (frT t) (rsP L) (rkT t)) 0) (rkT t) 0 = rsR t L) := rfl
          unfold MdPost at HMD
          rw [HRR.out, if_neg HT64.out, if_neg HT64.out] at HMD
          clear h4 HPR hi0
          generalize flat (sortR (contrR (rsR t L))) = T at *
          go_wp2_with fail
          refine HMD.out.mono ?_
          rintro e w5 ⟨hb5, hz5, _, rfl, P5, N5, rfl, hP5, hN5⟩
          obtain ⟨p5, c5, rfl, _, _⟩ := SlAt.open hP5
          obtain ⟨n5, d5, rfl, _, _⟩ := SlAt.open hN5
          have hu5 : Up w2 w5 := HB4.out.trans hb5
          have hrb5 := (Below.block hu5 (w.heap.size + 2) (by have := HS2.out; omega)).trans HRB2.out
          obtain ⟨q0, q1, q2, q3⟩ := boxed hrb5
          have HST := Lib.hid (store_two (w := w) (p := .slice p5 T.ps.length c5) (q := .slice n5 T.ns.length d5) hrb5 (by omega) (HUW.out.trans hu5))
          have HP5 := Lib.hid hP5
          have HN5 := Lib.hid hN5
          clear hb5 hrb5 hu5 hP5 hN5 HMD
          go_wp2_with fail
          obtain ⟨s1, s2, s3, s4⟩ := HST.out
          refine ⟨rfl, .tuple #[.agg #[.slice p5 T.ps.length c5, .slice n5 T.ns.length d5], .int .i64 0], by simp [results, Tryz.results27, go_sem, s2, s3], s1, _, by rw [HR0.out], ?_⟩
          rw [HRS.out]
          have hs2 := HS2.out
          have hz4 := HZ4.out
          exact ⟨_, _, rfl, (IntsAt.keep HP5.out fun b hb _ => s4 b (by omega)).sub fun _ _ _ => trivial, (StrsAt.keep HN5.out fun b hb _ => s4 b (by omega)).sub fun _ _ _ => trivial⟩
  · have he1 : (treeErr t != 0) = true := by simpa using he
    have HST := Lib.hid (rs_err (c := 1) (by omega) HUW.out HRB2.out (by rw [HRE.out, if_pos he]) (by decide))
    clear he HRE
    generalize treeErr t = te at *
    go_wp2_with fail
    obtain ⟨s2, s3, hp⟩ := HST.out
    exact ⟨rfl, .tuple #[.agg #[.slice none 0 0, .slice none 0 0], .int .i64 1], by simp [results, Tryz.results27, go_sem, s2, s3], hp⟩
end Go.Proofs.YtgjcfkadioblfaaGreat
