/- The tree that phylotree.made makes: plain. The tree of a forest whose rose tree is good: plain. The forest that pruned leaves: plain. SharederrorClades, plain: the tree whose leaves are renamed, the lists of the leaves below its nodes. The last common ancestor of two nodes, plain. The example of the chapter: three, awake. slices.IndexFunc, slices.DeleteFunc at nodes. -/
import Derived.Test.YtcaialhoclodjaaQ16
import Derived.Test.YtcaialhoclodjaaQ14
import Derived.Test.YtcaialhoclodjaaQ15
import Derived.Test.YtcaialhoclodjaaQ3
import Derived.Test.YtcaialhoclodjaaQ5
import Derived.Test.YtcaialhoclodjaaQ13
import Derived.Lib.SliceRun
namespace Go.Proofs.Ytcaialhoclodjaa
mutual
/-- The tree without nodes that have one child. -/
def contrR : RT → RT
  | .node nm [] => .node nm []
  | .node _ [k] => contrR k
  | .node nm (a :: b :: ks) => .node nm (contrR a :: contrR b :: contrRs ks)
def contrRs : List RT → List RT
  | [] => []
  | r :: rs => contrR r :: contrRs rs
end
theorem contrRs_map : ∀ l : List RT, contrRs l = l.map contrR
  | [] => rfl
  | r :: l => by rw [contrRs, contrRs_map l]; rfl
theorem contr_one (nm : ByteArray) (k : RT) : contrR (.node nm [k]) = contrR k := by rw [contrR]
theorem contr_many {nm : ByteArray} {ks : List RT} (h : ks.length ≠ 1) : contrR (.node nm ks) = .node nm (ks.map contrR) := by
  match ks with
  | [] => rw [contrR]; rfl
  | [k] => simp at h
  | a :: b :: ks => rw [contrR, contrRs_map]; rfl
theorem size_kid {nm : ByteArray} {ks : List RT} {k : RT} (h : k ∈ ks) : sizeR k < sizeR (.node nm ks) := by
  rw [sizeR]
  have : ∀ l : List RT, k ∈ l → sizeR k ≤ sizeRs l := fun l => by
    induction l with
    | nil => intro h; cases h
    | cons a l ih =>
      intro h
      rw [sizeRs]
      rcases List.mem_cons.1 h with rfl | h
      · omega
      · have := ih h; omega
  have := this ks h
  omega
/-- Each part of the contracted tree is a part with its children contracted. -/
theorem sub_contr : ∀ (d : Nat) (r s : RT), sizeR r ≤ d → s ∈ subR (contrR r) → ∃ u ∈ subR r, u.kids.length ≠ 1 ∧ s = .node u.nm (u.kids.map contrR)
  | 0, r, _, hd, _ => by have := sizeR_pos r; omega
  | d + 1, .node nm ks, s, hd, h => by
    by_cases h1 : ks.length = 1
    · obtain ⟨k, rfl⟩ := List.length_eq_one_iff.1 h1
      rw [contr_one] at h
      obtain ⟨u, hu, e⟩ := sub_contr d k s (by have := size_kid (nm := nm) (ks := [k]) (k := k) (by simp); omega) h
      exact ⟨u, subR_trans _ (mem_kid (by simp)) hu, e⟩
    · rw [contr_many h1, subR, List.mem_cons] at h
      rcases h with rfl | h
      · exact ⟨_, subR_self _, h1, rfl⟩
      · obtain ⟨q, hq, hs⟩ := mem_subRs_ex h
        obtain ⟨k, hk, rfl⟩ := List.mem_map.1 hq
        obtain ⟨u, hu, e⟩ := sub_contr d k s (by have := size_kid (nm := nm) hk; omega) hs
        exact ⟨u, subR_trans _ (mem_kid hk) hu, e⟩
theorem leaf_contr : ∀ (d : Nat) (r : RT), sizeR r ≤ d → (∀ s ∈ subR r, s.kids ≠ [] → s.nm.size = 0) → leafR (contrR r) = leafR r
  | 0, r, hd, _ => by have := sizeR_pos r; omega
  | d + 1, .node nm ks, hd, h => by
    have hk : ∀ k ∈ ks, leafR (contrR k) = leafR k := fun k hk => leaf_contr d k (by have := size_kid (nm := nm) hk; omega) fun s hs => h s (subR_trans _ (mem_kid hk) hs)
    by_cases h0 : ks = []
    · subst h0; rw [contrR]
    · have hz : nm.size = 0 := h _ (subR_self _) h0
      by_cases h1 : ks.length = 1
      · obtain ⟨k, rfl⟩ := List.length_eq_one_iff.1 h1
        rw [contr_one, hk k (by simp), leafR_node hz]; simp
      · rw [contr_many h1, leafR_node hz, leafR_node hz, List.flatMap_map]
        have : ∀ l : List RT, (∀ k ∈ l, leafR (contrR k) = leafR k) → l.flatMap (fun k => leafR (contrR k)) = l.flatMap leafR := fun l => by
          induction l with
          | nil => intro _; rfl
          | cons a l ih => intro h; rw [List.flatMap_cons, List.flatMap_cons, h a (by simp), ih fun k hk => h k (by simp [hk])]
        exact this ks hk
theorem good_contr {r : RT} (h : GoodR r) : GoodR (contrR r) := by
  refine ⟨fun s hs hk => ?_, fun s hs hk => ?_, ?_⟩
  · obtain ⟨u, hu, _, rfl⟩ := sub_contr _ r s (Nat.le_refl _) hs
    exact h.inn u hu fun e => hk (by show u.kids.map contrR = []; rw [e]; rfl)
  · obtain ⟨u, hu, _, rfl⟩ := sub_contr _ r s (Nat.le_refl _) hs
    exact h.lf u hu (List.map_eq_nil_iff.1 hk)
  · rw [leaf_contr _ r (Nat.le_refl _) h.inn]; exact h.nd
section
variable {F : Frs} {n : Nat} {rk : Nat → Nat}
theorem ct_wf (h : Wf F n rk) (i : Nat) : Wf (F.sub rk (ctQ F rk) i) n rk := ⟨fun z hz j hj => by
  have hj : j ∈ if _ then _ else _ := hj
  split at hj
  · unfold ctQ at hj
    split at hj
    · exact h.kid z hz j hj
    · obtain ⟨c, hc, rfl⟩ := List.mem_map.1 hj
      obtain ⟨h1, h2⟩ := h.kid z hz c hc
      obtain ⟨a, b, _⟩ := cr_ok h h1 (Nat.le_refl _)
      exact ⟨a, by omega⟩
  · exact h.kid z hz j hj⟩
theorem ct_kids {i z : Nat} (hs : subF F rk i z = true) (h1 : (F.kids z).length ≠ 1) : (F.sub rk (ctQ F rk) i).kids z = (F.kids z).map (cr F rk) := by
  show (if _ then _ else _) = _
  rw [if_pos hs]; unfold ctQ; rw [if_neg h1]
/-- The rose tree of the contracted forest. -/
theorem ct_rose (h : Wf F n rk) {i : Nat} (hi : i < n) : ∀ (d z : Nat), rk z ≤ d → z < n → subF F rk i z = true → toRF (F.sub rk (ctQ F rk) i) rk (cr F rk z) = contrR (toRF F rk z)
  | d, z, hd, hz, hs => by
    by_cases h1 : (F.kids z).length = 1
    · obtain ⟨k, hk⟩ := List.length_eq_one_iff.1 h1
      have hkk := h.kid z hz k (by rw [hk]; simp)
      cases d with
      | zero => omega
      | succ d =>
        rw [cr_one h hz hk, toRF_eq h hz, hk, List.map_cons, List.map_nil, contr_one]
        exact ct_rose h hi d k (by omega) hkk.1 (sub_trans h hi (Nat.le_refl _) hs (subF_kid h hz (by rw [hk]; simp) (subF_self h hkk.1)))
    · rw [cr_self h hz h1, toRF_eq h hz, contr_many (by rw [List.length_map]; exact h1), toRF_eq (ct_wf h i) hz, ct_kids hs h1, List.map_map, List.map_map]
      congr 1
      refine List.map_congr_left fun k hk => ?_
      have hkk := h.kid z hz k hk
      cases d with
      | zero => omega
      | succ d => exact ct_rose h hi d k (by omega) hkk.1 (sub_trans h hi (Nat.le_refl _) hs (subF_kid h hz hk (subF_self h hkk.1)))
/-- What lies below and is no passed node lies below what stands for it. -/
theorem ct_reach (h : Wf F n rk) {i : Nat} (hi : i < n) : ∀ (d y z : Nat), rk y ≤ d → y < n → subF F rk i y = true → subF F rk y z = true → (F.kids z).length ≠ 1 → subF (F.sub rk (ctQ F rk) i) rk (cr F rk y) z = true
  | d, y, z, hd, hy, hs, hz, h1 => by
    have hc := cr_ok h hy (Nat.le_refl _)
    rcases subF_cases h hy hz with e | ⟨k, hk, h2⟩
    · subst e; rw [cr_self h hy h1]; exact subF_self (ct_wf h i) hy
    · have hkk := h.kid y hy k hk
      have hsk := sub_trans h hi (Nat.le_refl _) hs (subF_kid h hy hk (subF_self h hkk.1))
      cases d with
      | zero => omega
      | succ d =>
        have ih := ct_reach h hi d k z (by omega) hkk.1 hsk h2 h1
        by_cases h3 : (F.kids y).length = 1
        · obtain ⟨q, hq⟩ := List.length_eq_one_iff.1 h3
          rw [hq] at hk
          have : k = q := by simpa using hk
          subst this
          rw [cr_one h hy hq]; exact ih
        · rw [cr_self h hy h3]
          exact subF_kid (ct_wf h i) hy (by rw [ct_kids hs h3]; exact List.mem_map.2 ⟨k, hk, rfl⟩) ih
theorem rose_part (h : Wf F n rk) {i z : Nat} (hi : i < n) (hs : subF F rk i z = true) : toRF F rk z ∈ subR (toRF F rk i) := by
  rw [subR_toRF h hi (Nat.le_refl _)]
  exact List.mem_map.2 ⟨z, (mem_nodesF h hi (Nat.le_refl _)).2 hs, rfl⟩
/-- Where the rose tree is good, the children of a node are apart by their least names. -/
theorem good_sep (h : Wf F n rk) {i z : Nat} (hi : i < n) (hg : GoodR (toRF F rk i)) (hz : z < n) (hs : subF F rk i z = true) : ((F.kids z).map (lsF F rk)).Nodup := by
  have h1 := good_dst hg _ (rose_part h hi hs)
  rw [toRF_kids h hz, List.map_map] at h1
  have : (F.kids z).map ((fun k => firstR (sortR k)) ∘ toRF F rk) = (F.kids z).map (lsF F rk) := by
    refine List.map_congr_left fun k hk => ?_
    have hkk := h.kid z hz k hk
    exact (toRF_srt h (fun _ => true) hkk.1 (Nat.le_refl _) fun _ _ => rfl).2
  rw [this] at h1; exact h1
theorem map_sep {f : Nat → ByteArray} {l : List Nat} (h : (l.map f).Nodup) : l.Nodup ∧ Sep f l := by
  unfold List.Nodup at h
  rw [List.pairwise_map] at h
  refine ⟨h.imp fun h e => h (by rw [e]), fun x hx y hy e => ?_⟩
  obtain ⟨i, hi, rfl⟩ := List.getElem_of_mem hx
  obtain ⟨j, hj, rfl⟩ := List.getElem_of_mem hy
  have hp := List.pairwise_iff_getElem.1 h
  rcases Nat.lt_trichotomy i j with c | c | c
  · exact absurd e (hp i j hi hj c)
  · subst c; rfl
  · exact absurd e.symm (hp j i hj hi c)
theorem small_sep {f : Nat → ByteArray} {l : List Nat} (h : l.length ≤ 1) : l.Nodup ∧ Sep f l := by
  match l with
  | [] => exact ⟨List.nodup_nil, fun x hx => by cases hx⟩
  | [a] => exact ⟨by simp, fun x hx y hy _ => by simp at hx hy; rw [hx, hy]⟩
  | a :: b :: l => simp at h
/-- Where the rose tree is good, no node stands twice below the root. -/
theorem good_nodes (h : Wf F n rk) : ∀ (d i : Nat), rk i ≤ d → i < n → GoodR (toRF F rk i) → (nodesF F rk i).Nodup
  | d, i, hd, hi, hg => by
    rw [nodesF_eq h hi, List.nodup_cons]
    have hsub : ∀ k ∈ F.kids i, toRF F rk k ∈ subR (toRF F rk i) := fun k hk => rose_part h hi (subF_kid h hi hk (subF_self h (h.kid i hi k hk).1))
    have hgk : ∀ k ∈ F.kids i, GoodR (toRF F rk k) := fun k hk => ⟨fun s hs => hg.inn s (subR_trans _ (hsub k hk) hs), fun s hs => hg.lf s (subR_trans _ (hsub k hk) hs), (leafR_sub (hsub k hk)).nodup hg.nd⟩
    refine ⟨fun hm => ?_, ?_⟩
    · obtain ⟨k, hk, hm⟩ := List.mem_flatMap.1 hm
      have hkk := h.kid i hi k hk
      have := subD_rank h hkk.1 ((mem_nodesF h hkk.1 (Nat.le_refl _)).1 hm)
      omega
    · by_cases h0 : F.kids i = []
      · rw [h0]; simp
      · have hnd := hg.nd
        rw [toRF_eq h hi, leafR_node (by have := hg.inn _ (subR_self _); rw [toRF_nm h hi, toRF_kids h hi] at this; exact this (fun e => h0 (List.map_eq_nil_iff.1 e))), List.flatMap_map, List.nodup_iff_pairwise_ne, List.pairwise_flatMap] at hnd
        rw [List.nodup_iff_pairwise_ne, List.pairwise_flatMap]
        refine ⟨fun k hk => ?_, ?_⟩
        · have hkk := h.kid i hi k hk
          cases d with
          | zero => omega
          | succ d => exact good_nodes h d k (by omega) hkk.1 (hgk k hk)
        · refine hnd.2.imp_of_mem ?_
          intro a b ha hb hab x hx y hy e
          subst e
          have hka := h.kid i hi a ha
          have hkb := h.kid i hi b hb
          have h1 := rose_part h hka.1 ((mem_nodesF h hka.1 (Nat.le_refl _)).1 hx)
          have h2 := rose_part h hkb.1 ((mem_nodesF h hkb.1 (Nat.le_refl _)).1 hy)
          have hf := first_leaf (toRF F rk x) fun s hs => (hgk a ha).lf s (subR_trans _ h1 hs)
          exact hab _ ((leafR_sub h1).subset hf) _ ((leafR_sub h2).subset hf) rfl
end
end Go.Proofs.Ytcaialhoclodjaa
namespace Go.Proofs.Ytcaialhoclodjaa
section
variable {F : Frs} {n : Nat} {rk : Nat → Nat}
theorem num_sub2 (h : Wf F n rk) : ∀ {d i : Nat} (p : Option Nat) (np : Int) (s : Num), i < n → rk i ≤ d → (nodesF F rk i).Nodup → p ≠ some i → s.mp.lookup p = some np → (∀ j ∈ nodesF F rk i, s.mp.lookup (some j) = none) →
    NumTo s ((seqF F rk i p).foldl (numS F) s) (psR (toRF F rk i) s.ps.length np) (nsR (toRF F rk i)) (nodesF F rk i) := by
  intro d
  induction d with
  | zero =>
    intro i p np s hi hd hnd0 hp hl hn
    have hk : F.kids i = [] := by
      cases hk : F.kids i with
      | nil => rfl
      | cons k l => have := (h.kid i hi k (by rw [hk]; simp)).2; omega
    rw [seqF_eq h hi, toRF_eq h hi, nodesF_eq h hi, hk]
    have hni := hn i (by rw [nodesF_eq h hi]; simp)
    refine ⟨?_, ?_, fun k hk2 => lookup_putI_ne _ (hk2 i (by simp))⟩
    · show s.ps ++ [((putI s.mp (some i) _).lookup p).getD 0] = _
      rw [lookup_putI_ne _ hp, hl]; rfl
    · rfl
  | succ d ih =>
    intro i p np s hi hd hnd0 hp hl hn
    rw [seqF_eq h hi, toRF_eq h hi, nodesF_eq h hi]
    have hni := hn i (by rw [nodesF_eq h hi]; simp)
    have hnd := hnd0
    rw [nodesF_eq h hi, List.nodup_cons] at hnd
    have key : ∀ (l : List Nat), (∀ k ∈ l, k ∈ F.kids i) → (l.flatMap fun k => nodesF F rk k).Nodup → (∀ k ∈ l, i ∉ nodesF F rk k) → ∀ (s2 : Num) (own : Nat), s2.mp.lookup (some i) = some (own : Int) → (∀ k ∈ l, ∀ j ∈ nodesF F rk k, s2.mp.lookup (some j) = none) →
        NumTo s2 ((l.flatMap fun k => seqF F rk k (some i)).foldl (numS F) s2) (psRs (l.map (toRF F rk)) own s2.ps.length) (nsRs (l.map (toRF F rk))) (l.flatMap fun k => nodesF F rk k) := by
      intro l
      induction l with
      | nil => intro _ _ _ s2 own _ _; exact ⟨by simp [psRs], by simp [nsRs], fun _ _ => rfl⟩
      | cons c l ihl =>
        intro hin hdl hil s2 own ho hno
        have hcc := h.kid i hi c (hin c (by simp))
        rw [List.flatMap_cons, List.foldl_append, List.flatMap_cons]
        rw [List.flatMap_cons, List.nodup_append] at hdl
        have h1 := ih (some i) (own : Int) s2 hcc.1 (by omega) hdl.1 (fun e => by
          injection e with e
          have := hcc.2; rw [e] at this; omega) ho (hno c (by simp))
        have h2 := ihl (fun k hk => hin k (by simp [hk])) hdl.2.1 (fun k hk => hil k (by simp [hk])) ((seqF F rk c (some i)).foldl (numS F) s2) own
          ((h1.old (some i) (fun j hj e => by injection e with e; subst e; exact hil c (by simp) hj)).trans ho)
          (fun k hk j hj => (h1.old (some j) (fun j2 hj2 e => by
            injection e with e; subst e
            exact hdl.2.2 j hj2 j (List.mem_flatMap.2 ⟨k, hk, hj⟩) rfl)).trans (hno k (by simp [hk]) j hj))
        refine ⟨?_, ?_, fun k hk => ?_⟩
        · rw [h2.ps, h1.ps, List.map_cons, psRs, List.append_assoc, List.length_append, psR_len]
        · rw [h2.ns, h1.ns, List.map_cons, nsRs, List.append_assoc]
        · rw [h2.old k (fun j hj => hk j (by simp [hj])), h1.old k (fun j hj => hk j (by simp [hj]))]
    have hin : ∀ k ∈ F.kids i, i ∉ nodesF F rk k := fun k hk hm => hnd.1 (List.mem_flatMap.2 ⟨k, hk, hm⟩)
    have h3 := key (F.kids i) (fun k hk => hk) hnd.2 hin (numS F s (i, p)) s.ps.length (lookup_putI_new _ hni) (fun k hk j hj => by
      show (putI s.mp (some i) _).lookup (some j) = none
      rw [lookup_putI_ne _ (fun e => by injection e with e; subst e; exact hin k hk hj)]
      exact hn j (by rw [nodesF_eq h hi]; exact List.mem_cons_of_mem _ (List.mem_flatMap.2 ⟨k, hk, hj⟩)))
    have hps : (numS F s (i, p)).ps = s.ps ++ [np] := by
      show s.ps ++ [((putI s.mp (some i) _).lookup p).getD 0] = _
      rw [lookup_putI_ne _ hp, hl]; rfl
    rw [List.foldl_cons]
    refine ⟨?_, ?_, fun k hk => ?_⟩
    · rw [h3.ps, hps, psR, List.append_assoc, List.length_append]; rfl
    · rw [h3.ns]
      show (s.ns ++ [F.nm i]) ++ _ = _
      rw [nsR, List.append_assoc]; rfl
    · rw [h3.old k (fun j hj => hk j (by simp [hj]))]
      exact lookup_putI_ne _ (hk i (by simp))
theorem treeF_flat2 (h : Wf F n rk) {i : Nat} (hi : i < n) (hnd : (nodesF F rk i).Nodup) : treeF F rk i = flat (toRF F rk i) := by
  have h1 := num_sub2 h (d := rk i) none (-1) num0 hi (Nat.le_refl _) hnd (fun e => by cases e) rfl (fun j _ => rfl)
  unfold treeF flat numL
  rw [h1.ps, h1.ns]
  rfl
/-- The contracted forest may be sorted. -/
theorem ct_sortable (h : Wf F n rk) {i : Nat} (hi : i < n) (hg : GoodR (toRF F rk i)) (hl : ∀ z, z < n → (F.kids z).length ≤ 1000) (hout : ∀ z, z < n → subF F rk i z = false → (F.kids z).length ≤ 1) : Sortable (F.sub rk (ctQ F rk) i) n rk := by
  have hw := ct_wf h i
  have hlen : ∀ z, ((F.sub rk (ctQ F rk) i).kids z).length = (F.kids z).length := fun z => by
    show (if _ then _ else _ : List Nat).length = _
    split
    · unfold ctQ; split
      · rfl
      · rw [List.length_map]
    · rfl
  have hr := cr_ok h hi (Nat.le_refl _)
  have hgr : GoodR (toRF (F.sub rk (ctQ F rk) i) rk (cr F rk i)) := by
    rw [ct_rose h hi (rk i) i (Nat.le_refl _) hi (subF_self h hi)]; exact good_contr hg
  have key : ∀ z, z < n → ((F.sub rk (ctQ F rk) i).kids z).Nodup ∧ Sep (lsF (F.sub rk (ctQ F rk) i) rk) ((F.sub rk (ctQ F rk) i).kids z) := fun z hz => by
    by_cases h1 : (F.kids z).length ≤ 1
    · exact small_sep (by rw [hlen]; exact h1)
    · cases hs : subF F rk i z with
      | false => exact absurd (hout z hz hs) h1
      | true => exact map_sep (good_sep hw hr.1 hgr hz (ct_reach h hi (rk i) i z (Nat.le_refl _) hi (subF_self h hi) hs (by omega)))
  exact ⟨hw, fun z hz => (key z hz).2, fun z hz => (key z hz).1, fun z hz => by rw [hlen]; exact hl z hz⟩
/-- A forest sorted below i, where the rose tree is good: its tree. -/
theorem srt_tree (h : Wf F n rk) {i : Nat} (hi : i < n) (hg : GoodR (toRF F rk i)) {p : Nat → Bool} (hp : ∀ j, subF F rk i j = true → p j = true) :
    treeF (F.srt rk p) rk i = flat (sortR (toRF F rk i)) ∧ (seqF (F.srt rk p) rk i none).length = sizeR (toRF F rk i) := by
  have he := (toRF_srt h p hi (Nat.le_refl _) hp).1
  have hw := h.srt p
  have hg2 : GoodR (toRF (F.srt rk p) rk i) := by rw [he]; exact hg.sort
  refine ⟨by rw [treeF_flat2 hw hi (good_nodes hw _ i (Nat.le_refl _) hi hg2), he], ?_⟩
  have h1 := congrArg List.length (subR_toRF hw hi (Nat.le_refl _))
  rw [List.length_map, subR_len, he, sizeR_sort] at h1
  rw [h1]; unfold nodesF; rw [List.length_map]
end
end Go.Proofs.Ytcaialhoclodjaa
namespace Go.Proofs.Ytcaialhoclodjaa
mutual
theorem size_contr : ∀ r : RT, sizeR (contrR r) ≤ sizeR r
  | .node nm [] => by rw [contrR]; exact Nat.le_refl _
  | .node nm [k] => by
    have := size_contr k
    rw [contrR, sizeR, sizeRs, sizeRs]; omega
  | .node nm (a :: b :: ks) => by
    have h1 := size_contr a
    have h2 := size_contr b
    have h3 := sizes_contr ks
    rw [contrR]
    simp only [sizeR, sizeRs]
    omega
theorem sizes_contr : ∀ rs : List RT, sizeRs (contrRs rs) ≤ sizeRs rs
  | [] => by rw [contrRs]; exact Nat.le_refl _
  | r :: rs => by
    have h1 := size_contr r
    have h2 := sizes_contr rs
    rw [contrRs, sizeRs, sizeRs]; omega
end
section
variable {F : Frs} {n : Nat} {rk : Nat → Nat} {P : Nat → Bool}
theorem pr_kids {i z : Nat} (hs : subF F rk i z = true) : (F.sub rk (prQ F P rk) i).kids z = (F.kids z).filter (al F P rk) := by
  show (if _ then _ else _) = _
  rw [if_pos hs]; rfl
theorem pr_mem {i z j : Nat} (hj : j ∈ (F.sub rk (prQ F P rk) i).kids z) : j ∈ F.kids z := by
  have hj : j ∈ if _ then _ else _ := hj
  split at hj
  · exact (List.mem_filter.1 hj).1
  · exact hj
theorem pr_wf (h : Wf F n rk) (i : Nat) : Wf (F.sub rk (prQ F P rk) i) n rk := ⟨fun z hz j hj => h.kid z hz j (pr_mem hj)⟩
theorem pr_len (hl : ∀ z, z < n → (F.kids z).length ≤ 1000) (i z : Nat) (hz : z < n) : ((F.sub rk (prQ F P rk) i).kids z).length ≤ 1000 := by
  show (if _ then _ else _ : List Nat).length ≤ _
  split
  · exact Nat.le_trans (List.length_filter_le _ _) (hl z hz)
  · exact hl z hz
/-- What lies below x in the pruned forest lay below it before. -/
theorem pr_below (h : Wf F n rk) (i : Nat) : ∀ (d x z : Nat), rk x ≤ d → x < n → subF (F.sub rk (prQ F P rk) i) rk x z = true → subF F rk x z = true
  | d, x, z, hd, hx, hs => by
    rcases subF_cases (pr_wf h i) hx hs with e | ⟨k, hk, h2⟩
    · subst e; exact subF_self h hx
    · have hk := pr_mem hk
      have hkk := h.kid x hx k hk
      cases d with
      | zero => omega
      | succ d => exact subF_kid h hx hk (pr_below h i d k z (by omega) hkk.1 h2)
/-- What lies below the root of the pruned forest stays. -/
theorem pr_alive (h : Wf F n rk) {i : Nat} (hi : i < n) : ∀ (d x z : Nat), rk x ≤ d → x < n → subF F rk i x = true → al F P rk x = true → subF (F.sub rk (prQ F P rk) i) rk x z = true → al F P rk z = true
  | d, x, z, hd, hx, hix, ha, hs => by
    rcases subF_cases (pr_wf h i) hx hs with e | ⟨k, hk, h2⟩
    · subst e; exact ha
    · rw [pr_kids hix] at hk
      obtain ⟨hk, hka⟩ := List.mem_filter.1 hk
      have hkk := h.kid x hx k hk
      cases d with
      | zero => omega
      | succ d => exact pr_alive h hi d k z (by omega) hkk.1 (sub_trans h hi (Nat.le_refl _) hix (subF_kid h hx hk (subF_self h hkk.1))) hka h2
/-- What stays below x is reached from it. -/
theorem pr_reach (h : Wf F n rk) {i : Nat} (hi : i < n) : ∀ (d x z : Nat), rk x ≤ d → x < n → subF F rk i x = true → subF F rk x z = true → al F P rk z = true → al F P rk x = true ∧ subF (F.sub rk (prQ F P rk) i) rk x z = true
  | d, x, z, hd, hx, hix, hs, ha => by
    rcases subF_cases h hx hs with e | ⟨k, hk, h2⟩
    · subst e; exact ⟨ha, subF_self (pr_wf h i) hx⟩
    · have hkk := h.kid x hx k hk
      cases d with
      | zero => omega
      | succ d =>
        obtain ⟨h3, h4⟩ := pr_reach h hi d k z (by omega) hkk.1 (sub_trans h hi (Nat.le_refl _) hix (subF_kid h hx hk (subF_self h hkk.1))) h2 ha
        refine ⟨?_, subF_kid (pr_wf h i) hx (by rw [pr_kids hix]; exact List.mem_filter.2 ⟨hk, h3⟩) h4⟩
        rw [al_eq h hx, if_neg fun e => by rw [e] at hk; cases hk]
        exact List.any_eq_true.2 ⟨k, hk, h3⟩
theorem pr_dis (h : Wf F n rk) {i : Nat} (hi : i < n) (hD : Dis F n rk i) : Dis (F.sub rk (prQ F P rk) i) n rk i := fun z hz hs => by
  have hs2 := pr_below h i _ i z (Nat.le_refl _) hi hs
  obtain ⟨h1, h2⟩ := hD z hz hs2
  refine ⟨by rw [pr_kids hs2]; exact h1.filter _, fun x hx y hy j a b => ?_⟩
  have hx := pr_mem hx
  have hy := pr_mem hy
  exact h2 x hx y hy j (pr_below h i _ x j (Nat.le_refl _) (h.kid z hz x hx).1 a) (pr_below h i _ y j (Nat.le_refl _) (h.kid z hz y hy).1 b)
theorem pr_out (h : Wf F n rk) {i : Nat} (hi : i < n) (hall : ∀ z, z < n → subF F rk i z = true) : ∀ z, z < n → subF (F.sub rk (prQ F P rk) i) rk i z = false → ((F.sub rk (prQ F P rk) i).kids z).length ≤ 1 := fun z hz hs => by
  have h1 := hall z hz
  rw [pr_kids h1]
  have : (F.kids z).filter (al F P rk) = [] := by
    rw [List.filter_eq_nil_iff]
    intro k hk ha
    have hkk := h.kid z hz k hk
    have hza : al F P rk z = true := by
      rw [al_eq h hz, if_neg fun e => by rw [e] at hk; cases hk]
      exact List.any_eq_true.2 ⟨k, hk, ha⟩
    rw [(pr_reach h hi _ i z (Nat.le_refl _) hi (subF_self h hi) h1 hza).2] at hs
    cases hs
  rw [this]; exact Nat.zero_le _
theorem sublist_flatMap {f g : Nat → List ByteArray} {p : Nat → Bool} : ∀ l : List Nat, (∀ k ∈ l, p k = true → (f k).Sublist (g k)) → ((l.filter p).flatMap f).Sublist (l.flatMap g)
  | [], _ => List.Sublist.refl _
  | a :: l, h => by
    have ih := sublist_flatMap l fun k hk => h k (by simp [hk])
    rw [List.flatMap_cons]
    by_cases ha : p a = true
    · rw [List.filter_cons_of_pos ha, List.flatMap_cons]
      exact (h a (by simp) ha).append ih
    · rw [List.filter_cons_of_neg ha]
      exact ih.trans (List.sublist_append_right _ _)
theorem pr_part (h : Wf F n rk) {i : Nat} (hi : i < n) (hg : GoodR (toRF F rk i)) (ha : al F P rk i = true) {s : RT} (hs : s ∈ subR (toRF (F.sub rk (prQ F P rk) i) rk i)) :
    ∃ z, z < n ∧ subF F rk i z = true ∧ al F P rk z = true ∧ s = toRF (F.sub rk (prQ F P rk) i) rk z ∧ (s.kids ≠ [] → s.nm.size = 0) ∧ (s.kids = [] → F.kids z = [] ∧ namedB s.nm.data.toList = true) := by
  have hw := pr_wf (P := P) h i
  rw [subR_toRF hw hi (Nat.le_refl _)] at hs
  obtain ⟨z, hz, rfl⟩ := List.mem_map.1 hs
  have hsz := (mem_nodesF hw hi (Nat.le_refl _)).1 hz
  have hzn := subF_lt hw hi (Nat.le_refl _) hsz
  have hs2 := pr_below h i _ i z (Nat.le_refl _) hi hsz
  have hza := pr_alive h hi _ i z (Nat.le_refl _) hi (subF_self h hi) ha hsz
  have hpart := rose_part h hi hs2
  refine ⟨z, hzn, hs2, hza, rfl, fun hk => ?_, fun hk => ?_⟩
  · rw [toRF_nm hw hzn]
    have := hg.inn _ hpart
    rw [toRF_nm h hzn, toRF_kids h hzn] at this
    refine this fun e => hk ?_
    rw [toRF_kids hw hzn, pr_kids hs2, List.map_eq_nil_iff.1 e]; rfl
  · rw [toRF_kids hw hzn, pr_kids hs2, List.map_eq_nil_iff, List.filter_eq_nil_iff] at hk
    have h0 : F.kids z = [] := by
      by_cases c : F.kids z = []
      · exact c
      · rw [al_eq h hzn, if_neg c] at hza
        obtain ⟨k, hk2, hka⟩ := List.any_eq_true.1 hza
        exact absurd hka (hk k hk2)
    refine ⟨h0, ?_⟩
    rw [toRF_nm hw hzn]
    have := hg.lf _ hpart
    rw [toRF_nm h hzn, toRF_kids h hzn] at this
    exact this (by rw [h0]; rfl)
theorem pr_leaf (h : Wf F n rk) {i : Nat} (hi : i < n) (hg : GoodR (toRF F rk i)) (ha : al F P rk i = true) : ∀ (d z : Nat), rk z ≤ d → z < n → subF F rk i z = true → al F P rk z = true → (leafR (toRF (F.sub rk (prQ F P rk) i) rk z)).Sublist (leafR (toRF F rk z))
  | d, z, hd, hz, hs, hza => by
    have hw := pr_wf (P := P) h i
    rw [toRF_eq h hz, toRF_eq hw hz, pr_kids hs]
    have hn := rose_part h hi hs
    by_cases h0 : F.kids z = []
    · rw [h0]; exact List.Sublist.refl _
    · have hz0 : (F.nm z).size = 0 := by
        have := hg.inn _ hn
        rw [toRF_nm h hz, toRF_kids h hz] at this
        exact this fun e => h0 (List.map_eq_nil_iff.1 e)
      rw [leafR_node hz0, leafR_node (show ((F.sub rk (prQ F P rk) i).nm z).size = 0 from hz0), List.flatMap_map, List.flatMap_map]
      refine sublist_flatMap _ fun k hk hka => ?_
      have hkk := h.kid z hz k hk
      cases d with
      | zero => omega
      | succ d => exact pr_leaf h hi hg ha d k (by omega) hkk.1 (sub_trans h hi (Nat.le_refl _) hs (subF_kid h hz hk (subF_self h hkk.1))) hka
theorem pr_good (h : Wf F n rk) {i : Nat} (hi : i < n) (hg : GoodR (toRF F rk i)) (ha : al F P rk i = true) : GoodR (toRF (F.sub rk (prQ F P rk) i) rk i) := by
  refine ⟨fun s hs hk => ?_, fun s hs hk => ?_, (pr_leaf h hi hg ha _ i (Nat.le_refl _) hi (subF_self h hi) ha).nodup hg.nd⟩
  · obtain ⟨_, _, _, _, _, h1, _⟩ := pr_part h hi hg ha hs
    exact h1 hk
  · obtain ⟨_, _, _, _, _, _, h1⟩ := pr_part h hi hg ha hs
    exact (h1 hk).2
theorem good_size (h : Wf F n rk) {i : Nat} (hi : i < n) (hg : GoodR (toRF F rk i)) : sizeR (toRF F rk i) ≤ n := by
  rw [← subR_len, subR_toRF h hi (Nat.le_refl _), List.length_map]
  exact nodup_le (good_nodes h _ i (Nat.le_refl _) hi hg) fun x hx => subF_lt h hi (Nat.le_refl _) ((mem_nodesF h hi (Nat.le_refl _)).1 hx)
end
/-- Each node of a tree lies below the root. -/
theorem all_below {t : Tre} (h : treeErr t = 0) : ∀ (d z : Nat), z ≤ d → z < t.ps.length → subF (frT t) (rkT t) 0 z = true
  | d, z, hd, hz => by
    obtain ⟨hp, _, _, hok, _⟩ := treeErr_zero h
    have hw := (frT_arb h).wf
    by_cases h0 : z = 0
    · subst h0; exact subF_self hw hz
    · obtain ⟨h1, h2⟩ := pOkB_par hok hz (by omega)
      obtain ⟨q, hq⟩ : ∃ q : Nat, gi t.ps z = q := ⟨(gi t.ps z).toNat, by omega⟩
      cases d with
      | zero => omega
      | succ d =>
        have ih := all_below h d q (by omega) (by omega)
        exact sub_trans hw hp (Nat.le_refl _) ih (subF_kid hw (show q < t.ps.length by omega) (by rw [frT_kids]; exact mem_kidsL.2 ⟨hz, by omega, hq⟩) (subF_self hw hz))
end Go.Proofs.Ytcaialhoclodjaa
namespace Go.Proofs.Ytcaialhoclodjaa
section
variable {t : Tre}
theorem hit_chain {ps : List Int} (hp : pOkB ps = true) {i k : Nat} (hik : i ≤ k) : ∀ (d j : Nat), j ≤ d → j < ps.length → hitB ps i j = true → hitB ps k j = true → hitB ps i k = true
  | d, j, hd, hj, h1, h2 => by
    have hkj := hit_le hp hj h2
    by_cases e : j = k
    · subst e; exact h1
    · obtain ⟨p0, pj⟩ := pOkB_par hp hj (by omega)
      rw [hit_step hp hj (by omega)] at h1 h2
      cases d with
      | zero => omega
      | succ d => exact hit_chain hp hik d (gi ps j).toNat (by omega) (by omega) h1 h2
end
end Go.Proofs.Ytcaialhoclodjaa
namespace Go.Proofs.Ytcaialhoclodjaa
section
variable {ps : List Int}
end
end Go.Proofs.Ytcaialhoclodjaa
namespace Go.Proofs.Ytcaialhoclodjaa
open Go.RowKit Go.Deep
def t3 : Tre := ⟨[-1, 0, 1, 1, 0], [⟨#[]⟩, ⟨#[]⟩, ⟨#[65]⟩, ⟨#[66]⟩, ⟨#[67]⟩]⟩
def s3 : List Int := [0, 1, 1]
def u2 : List (List Int) := [[0, 1], [1, 0]]
theorem lit_ints (w : World) (cs : Array Value) (T : TypeId) (xs : List Int) (hcs : cs.toList = xs.map (Value.int .i64)) (n : Nat) (hn : n = xs.length) : IntsAt Any (w.alloc (.cells cs T)) (.slice (some ⟨w.heap.size, 0, none⟩) n n) xs := by
  subst hn
  refine ⟨_, _, rfl, Nat.le_refl _, .inr ⟨_, 0, rfl, trivial, fun k hk => ?_⟩⟩
  rw [Nat.zero_add, cell_at_new, ← Array.getElem?_toList, hcs]
  simp [gi, hk]
theorem lit_strs (w : World) (cs : Array Value) (T : TypeId) (xs : List ByteArray) (hcs : cs.toList = xs.map Value.string) (n : Nat) (hn : n = xs.length) : StrsAt Any (w.alloc (.cells cs T)) (.slice (some ⟨w.heap.size, 0, none⟩) n n) xs := by
  subst hn
  refine ⟨_, _, rfl, Nat.le_refl _, .inr ⟨_, 0, rfl, trivial, fun k hk => ?_⟩⟩
  rw [Nat.zero_add, cell_at_new, ← Array.getElem?_toList, hcs]
  simp [gs, hk]
end Go.Proofs.Ytcaialhoclodjaa
namespace Go.Proofs.Ytcaialhoclodjaa
open Go.RowKit Go.Deep
theorem grown_refl (w : World) (o : Option Nat) : w.grownBy w o := ⟨rfl, rfl, rfl, Nat.le_refl _, fun _ _ _ => rfl⟩
theorem grown_trans {w w' x : World} {o : Option Nat} (h : w.grownBy w' o) (k : w'.grownBy x o) : w.grownBy x o :=
  ⟨k.os.trans h.os, k.tape.trans h.tape, k.output.trans h.output, Nat.le_trans h.size k.size, fun b hb hn => (k.block b (Nat.lt_of_lt_of_le hb h.size) hn).trans (h.block b hb hn)⟩
theorem grown_up {w w' : World} (h : Up w w') (o : Option Nat) : w.grownBy w' o := ⟨h.os, h.tape, h.output, h.size, fun b hb _ => Below.block h b hb⟩
theorem grown_set {w : World} {g o : Nat} {z : Value} : w.grownBy (w.setCell ⟨g, o, none⟩ z) (some g) :=
  ⟨rfl, rfl, rfl, by rw [World.size_setCell]; exact Nat.le_refl _, fun b _ hn => blk_setCell_other _ _ _ _ fun e => hn (by rw [e])⟩
theorem grown_sets {g : Nat} : ∀ (vs : List Value) (o : Nat) (w : World), w.grownBy (w.setCells g o vs) (some g)
  | [], _, w => grown_refl w _
  | z :: vs, o, w => by rw [World.setCells]; exact grown_trans grown_set (grown_sets vs (o + 1) _)
theorem owns_take {base : Nat} {e : TypeId} {w : World} {g n cap : Nat} {xs : List Value} (h : Owns base e w (.slice (some ⟨g, 0, none⟩) n cap) xs) {m : Nat} (hm : m ≤ n) : Owns base e w (.slice (some ⟨g, 0, none⟩) m cap) (xs.take m) := by
  obtain ⟨h1, h2⟩ := h
  rcases h2 with ⟨e1, _⟩ | ⟨g2, cap2, cur, e1, hg, hc, hn, hcm, hcs, ht⟩
  · cases e1
  · injection e1 with a1 a2 a3
    injection a1 with a1
    injection a1 with a1
    subst a1; subst a3
    have hnx : n = xs.length := a2
    have hl : (xs.take m).length = m := by rw [List.length_take]; omega
    refine ⟨by rw [Nat.mul_one], .inr ⟨g, cap, cur, by rw [hl], hg, hc, by omega, hcm, hcs, ?_⟩⟩
    rw [hl, Nat.mul_one, ← ht, List.take_take]
    congr 1; omega
theorem owns_tail {base : Nat} {e : TypeId} {w : World} {g m cap o : Nat} {xs : List Value} {z : Value} (h : Owns base e w (.slice (some ⟨g, 0, none⟩) m cap) xs) (ho : m ≤ o) : Owns base e (w.setCell ⟨g, o, none⟩ z) (.slice (some ⟨g, 0, none⟩) m cap) xs := by
  obtain ⟨h1, h2⟩ := h
  rcases h2 with ⟨e1, _⟩ | ⟨g2, cap2, cur, e1, hg, hc, hn, hcm, hcs, ht⟩
  · cases e1
  · injection e1 with a1 a2 a3
    injection a1 with a1
    injection a1 with a1
    subst a1; subst a3
    refine ⟨h1, .inr ⟨g, cap, cur.setIfInBounds o z, by rw [a2], hg, ?_, hn, hcm, by rw [Array.size_setIfInBounds]; exact hcs, ?_⟩⟩
    · simp [World.setCell, Array.getElem?_modify, hc]
    · have hmx : m = xs.length := a2
      rw [Array.toList_setIfInBounds, List.take_set_of_le (by omega)]; exact ht
theorem owns_tails {base : Nat} {e : TypeId} {g m cap : Nat} {xs : List Value} : ∀ (vs : List Value) (o : Nat) (w : World), m ≤ o → Owns base e w (.slice (some ⟨g, 0, none⟩) m cap) xs → Owns base e (w.setCells g o vs) (.slice (some ⟨g, 0, none⟩) m cap) xs
  | [], _, _, _, h => h
  | z :: vs, o, w, ho, h => by rw [World.setCells]; exact owns_tails vs (o + 1) _ (by omega) (owns_tail h ho)
theorem owns_cell {base : Nat} {e : TypeId} {w : World} {g n cap : Nat} {xs : List Value} (h : Owns base e w (.slice (some ⟨g, 0, none⟩) n cap) xs) {j : Nat} {u : Value} (hj : xs[j]? = some u) : w.cell? ⟨g, j, none⟩ = some u ∧ w.frozen? ⟨g, j, none⟩ = false := by
  have hl := (List.getElem?_eq_some_iff.1 hj).1
  obtain ⟨g2, cap2, e1, _, _, hc, hf, _⟩ := h.set hl
  injection e1 with a1
  injection a1 with a1
  injection a1 with a1
  subst a1
  refine ⟨?_, hf⟩
  rw [hc]
  congr 1
  rw [List.getD_eq_getElem?_getD, hj]; rfl
section
variable {A : Nat → Nat} {P : Nat → Bool}
set_option maxRecDepth 100000 in
set_option maxHeartbeats 1000000 in
theorem index_node_t (g : Nat) (lb : Array Value) (eg : ∀ args w, (callFunc g args).run Try.prog w = .ok (.enter g args) w) {base : Nat} {w : World} {bk cap : Nat} {ks : List Nat} (h : Owns base 66 w (.slice (some ⟨bk, 0, none⟩) ks.length cap) (ks.map (nptr A))) (hn : ks.length ≤ 1000000)
    (hp : ∀ k ∈ ks, ∀ q, Calls Try.prog g (#[.pointer (some ⟨A k, 0, none⟩)] ++ lb) (w.drewN q) fun e w' => e = .returned (.bool (P k)) ∧ ∃ m, w' = w.drewN m) :
    Calls Try.prog 66 #[.slice (some ⟨bk, 0, none⟩) ks.length cap, .func (.func g) #[] lb] w fun e w' => e = .returned (.int .i64 (firstIx (fun j => P (ks.getD j 0)) ks.length)) ∧ ∃ m, w' = w.drewN m := by
  have HP := Lib.hid hp
  have HO := Lib.hid h
  clear h hp
  go_enter Try.func66, Try.ntmps66
  go_wp2_with fail
  go_loopw [5, 8] (fun _ i wr => ∃ k : Nat, k ≤ ks.length ∧ i = .int .i64 k ∧ Hid (QD w wr) ∧ Hid (∀ j, j < k → P (ks.getD j 0) = false)) (fun _ i _ => ks.length - (intOf i).toNat)
  case atStart => exact ⟨0, Nat.zero_le _, rfl, QD.refl _, fun j hj => absurd hj (Nat.not_lt_zero _)⟩
  case round =>
    obtain ⟨k, hk, rfl, hQ, hd⟩ := hrel
    obtain ⟨q, hq⟩ := hQ.out
    subst hq
    by_cases hlt : k < ks.length
    · have hke : ks[k]? = some (ks.getD k 0) := by rw [List.getD_eq_getElem?_getD, List.getElem?_eq_getElem hlt]; rfl
      have hx := (owns_cell (HO.out.same2 (w' := w.drewN q) fun _ _ => rfl) (j := k) (u := nptr A (ks.getD k 0)) (by rw [List.getElem?_map, hke]; rfl)).1
      simp only [nptr] at hx
      have i1 : (0 : Int) ≤ (k : Int) := by omega
      have i2 : (k : Int) < (ks.length : Int) := by omega
      have HPK := Lib.hid (HP.out (ks.getD k 0) (List.mem_of_getElem? hke) q)
      have HLT := Lib.hid hlt
      have HPV : Hid (∀ j, j < k + 1 → P (ks.getD k 0) = false → P (ks.getD j 0) = false) := fun j hj hf => if e : j = k then by subst e; exact hf else hd.out j (by omega)
      have HHI : Hid (P (ks.getD k 0) = true → firstIx (fun j => P (ks.getD j 0)) ks.length = k) := fun ht => firstIx_at hlt hd.out ht
      clear hke
      generalize ks.getD k 0 = c at *
      cases hv : P c
      · rw [hv] at HPK
        have HN : Hid (∀ j, j < k + 1 → P (ks.getD j 0) = false) := fun j hj => HPV.out j hj hv
        clear hv
        go_wp2_with fail
        refine HPK.out.mono ?_
        rintro e w' ⟨rfl, m, rfl⟩
        go_wp2_with fail
        go_roundw
        case rel => exact ⟨k + 1, HLT.out, by go_num, ⟨m, rfl⟩, HN.out⟩
        case measure => have := HLT.out; simp [intOf]; omega
      · rw [hv] at HPK
        have HN := Lib.hid (HHI.out hv)
        clear hv
        go_wp2_with fail
        refine HPK.out.mono ?_
        rintro e w' ⟨rfl, m, rfl⟩
        go_wp2_with fail
        go_ret
        exact ⟨ret_int HN.out.symm, m, rfl⟩
    · go_wp2_with fail
      go_ret
      exact ⟨ret_int (firstIx_none fun j hj => hd.out j (by omega)).symm, q, rfl⟩
end
end Go.Proofs.Ytcaialhoclodjaa
