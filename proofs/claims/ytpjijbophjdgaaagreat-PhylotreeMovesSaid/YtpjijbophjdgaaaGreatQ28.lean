/- The tree that phylotree.made makes: plain. The tree of a forest whose rose tree is good: plain. -/
import Derived.Test.YtpjijbophjdgaaaGreatQ27
import Derived.Test.YtpjijbophjdgaaaGreatQ25
namespace Go.Proofs.YtpjijbophjdgaaaGreat
mutual
def contrR : RT → RT
  | .node nm [] => .node nm []
  | .node _ [k] => contrR k
  | .node nm (a :: b :: ks) => .node nm (contrR a :: contrR b :: contrRs ks)
def contrRs : List RT → List RT
  | [] => []
  | r :: rs => contrR r :: contrRs rs
end
theorem contrRs_map : ∀ l : List RT, contrRs l = l.map contrR
  | [] => rfl
  | r :: l => by rw [contrRs, contrRs_map l]; rfl
theorem contr_one (nm : ByteArray) (k : RT) : contrR (.node nm [k]) = contrR k := by rw [contrR]
theorem contr_many {nm : ByteArray} {ks : List RT} (h : ks.length ≠ 1) : contrR (.node nm ks) = .node nm (ks.map contrR) := by
  match ks with
  | [] => rw [contrR]; rfl
  | [k] => simp at h
  | a :: b :: ks => rw [contrR, contrRs_map]; rfl
theorem size_kid {nm : ByteArray} {ks : List RT} {k : RT} (h : k ∈ ks) : sizeR k < sizeR (.node nm ks) := by
  rw [sizeR]
  have : ∀ l : List RT, k ∈ l → sizeR k ≤ sizeRs l := fun l => by
    induction l with
    | nil => intro h; cases h
    | cons a l ih =>
      intro h
      rw [sizeRs]
      rcases List.mem_cons.1 h with rfl | h
      · omega
      · have := ih h; omega
  have := this ks h
  omega
theorem sub_contr : ∀ (d : Nat) (r s : RT), sizeR r ≤ d → s ∈ subR (contrR r) → ∃ u ∈ subR r, u.kids.length ≠ 1 ∧ s = .node u.nm (u.kids.map contrR)
  | 0, r, _, hd, _ => by have := sizeR_pos r; omega
  | d + 1, .node nm ks, s, hd, h => by
    by_cases h1 : ks.length = 1
    · obtain ⟨k, rfl⟩ := List.length_eq_one_iff.1 h1
      rw [contr_one] at h
      obtain ⟨u, hu, e⟩ := sub_contr d k s (by have := size_kid (nm := nm) (ks := [k]) (k := k) (by simp); omega) h
      exact ⟨u, subR_trans _ (mem_kid (by simp)) hu, e⟩
    · rw [contr_many h1, subR, List.mem_cons] at h
      rcases h with rfl | h
      · exact ⟨_, subR_self _, h1, rfl⟩
      · obtain ⟨q, hq, hs⟩ := mem_subRs_ex h
        obtain ⟨k, hk, rfl⟩ := List.mem_map.1 hq
        obtain ⟨u, hu, e⟩ := sub_contr d k s (by have := size_kid (nm := nm) hk; omega) hs
        exact ⟨u, subR_trans _ (mem_kid hk) hu, e⟩
theorem leaf_contr : ∀ (d : Nat) (r : RT), sizeR r ≤ d → (∀ s ∈ subR r, s.kids ≠ [] → s.nm.size = 0) → leafR (contrR r) = leafR r
  | 0, r, hd, _ => by have := sizeR_pos r; omega
  | d + 1, .node nm ks, hd, h => by
    have hk : ∀ k ∈ ks, leafR (contrR k) = leafR k := fun k hk => leaf_contr d k (by have := size_kid (nm := nm) hk; omega) fun s hs => h s (subR_trans _ (mem_kid hk) hs)
    by_cases h0 : ks = []
    · subst h0; rw [contrR]
    · have hz : nm.size = 0 := h _ (subR_self _) h0
      by_cases h1 : ks.length = 1
      · obtain ⟨k, rfl⟩ := List.length_eq_one_iff.1 h1
        rw [contr_one, hk k (by simp), leafR_node hz]; simp
      · rw [contr_many h1, leafR_node hz, leafR_node hz, List.flatMap_map]
        have : ∀ l : List RT, (∀ k ∈ l, leafR (contrR k) = leafR k) → l.flatMap (fun k => leafR (contrR k)) = l.flatMap leafR := fun l => by
          induction l with
          | nil => intro _; rfl
          | cons a l ih => intro h; rw [List.flatMap_cons, List.flatMap_cons, h a (by simp), ih fun k hk => h k (by simp [hk])]
        exact this ks hk
theorem good_contr {r : RT} (h : GoodR r) : GoodR (contrR r) := by
  refine ⟨fun s hs hk => ?_, fun s hs hk => ?_, ?_⟩
  · obtain ⟨u, hu, _, rfl⟩ := sub_contr _ r s (Nat.le_refl _) hs
    exact h.inn u hu fun e => hk (by show u.kids.map contrR = []; rw [e]; rfl)
  · obtain ⟨u, hu, _, rfl⟩ := sub_contr _ r s (Nat.le_refl _) hs
    exact h.lf u hu (List.map_eq_nil_iff.1 hk)
  · rw [leaf_contr _ r (Nat.le_refl _) h.inn]; exact h.nd
theorem oku_contr {r : RT} (h : GoodR r) : OkU (contrR r) := by
  have hg := good_contr h
  refine ⟨hg.nd, fun s hs => ⟨fun hk => hg.inn s hs hk, fun hk => hg.lf s hs hk, ?_⟩⟩
  obtain ⟨u, _, h1, rfl⟩ := sub_contr _ r s (Nat.le_refl _) hs
  show (u.kids.map contrR).length ≠ 1
  rw [List.length_map]; exact h1
section
variable {F : Frs} {n : Nat} {rk : Nat → Nat}
theorem ct_wf (h : Wf F n rk) (i : Nat) : Wf (F.sub rk (ctQ F rk) i) n rk := ⟨fun z hz j hj => by
  have hj : j ∈ if _ then _ else _ := hj
  split at hj
  · unfold ctQ at hj
    split at hj
    · exact h.kid z hz j hj
    · obtain ⟨c, hc, rfl⟩ := List.mem_map.1 hj
      obtain ⟨h1, h2⟩ := h.kid z hz c hc
      obtain ⟨a, b, _⟩ := cr_ok h h1 (Nat.le_refl _)
      exact ⟨a, by omega⟩
  · exact h.kid z hz j hj⟩
theorem ct_kids {i z : Nat} (hs : subF F rk i z = true) (h1 : (F.kids z).length ≠ 1) : (F.sub rk (ctQ F rk) i).kids z = (F.kids z).map (cr F rk) := by
  show (if _ then _ else _) = _
  rw [if_pos hs]; unfold ctQ; rw [if_neg h1]
theorem ct_rose (h : Wf F n rk) {i : Nat} (hi : i < n) : ∀ (d z : Nat), rk z ≤ d → z < n → subF F rk i z = true → toRF (F.sub rk (ctQ F rk) i) rk (cr F rk z) = contrR (toRF F rk z)
  | d, z, hd, hz, hs => by
    by_cases h1 : (F.kids z).length = 1
    · obtain ⟨k, hk⟩ := List.length_eq_one_iff.1 h1
      have hkk := h.kid z hz k (by rw [hk]; simp)
      cases d with
      | zero => omega
      | succ d =>
        rw [cr_one h hz hk, toRF_eq h hz, hk, List.map_cons, List.map_nil, contr_one]
        exact ct_rose h hi d k (by omega) hkk.1 (sub_trans h hi (Nat.le_refl _) hs (subF_kid h hz (by rw [hk]; simp) (subF_self h hkk.1)))
    · rw [cr_self h hz h1, toRF_eq h hz, contr_many (by rw [List.length_map]; exact h1), toRF_eq (ct_wf h i) hz, ct_kids hs h1, List.map_map, List.map_map]
      congr 1
      refine List.map_congr_left fun k hk => ?_
      have hkk := h.kid z hz k hk
      cases d with
      | zero => omega
      | succ d => exact ct_rose h hi d k (by omega) hkk.1 (sub_trans h hi (Nat.le_refl _) hs (subF_kid h hz hk (subF_self h hkk.1)))
theorem ct_reach (h : Wf F n rk) {i : Nat} (hi : i < n) : ∀ (d y z : Nat), rk y ≤ d → y < n → subF F rk i y = true → subF F rk y z = true → (F.kids z).length ≠ 1 → subF (F.sub rk (ctQ F rk) i) rk (cr F rk y) z = true
  | d, y, z, hd, hy, hs, hz, h1 => by
    have hc := cr_ok h hy (Nat.le_refl _)
    rcases subF_cases h hy hz with e | ⟨k, hk, h2⟩
    · subst e; rw [cr_self h hy h1]; exact subF_self (ct_wf h i) hy
    · have hkk := h.kid y hy k hk
      have hsk := sub_trans h hi (Nat.le_refl _) hs (subF_kid h hy hk (subF_self h hkk.1))
      cases d with
      | zero => omega
      | succ d =>
        have ih := ct_reach h hi d k z (by omega) hkk.1 hsk h2 h1
        by_cases h3 : (F.kids y).length = 1
        · obtain ⟨q, hq⟩ := List.length_eq_one_iff.1 h3
          rw [hq] at hk
          have : k = q := by simpa using hk
          subst this
          rw [cr_one h hy hq]; exact ih
        · rw [cr_self h hy h3]
          exact subF_kid (ct_wf h i) hy (by rw [ct_kids hs h3]; exact List.mem_map.2 ⟨k, hk, rfl⟩) ih
theorem rose_part (h : Wf F n rk) {i z : Nat} (hi : i < n) (hs : subF F rk i z = true) : toRF F rk z ∈ subR (toRF F rk i) := by
  rw [subR_toRF h hi (Nat.le_refl _)]
  exact List.mem_map.2 ⟨z, (mem_nodesF h hi (Nat.le_refl _)).2 hs, rfl⟩
theorem good_sep (h : Wf F n rk) {i z : Nat} (hi : i < n) (hg : GoodR (toRF F rk i)) (hz : z < n) (hs : subF F rk i z = true) : ((F.kids z).map (lsF F rk)).Nodup := by
  have h1 := good_dst hg _ (rose_part h hi hs)
  rw [toRF_kids h hz, List.map_map] at h1
  have : (F.kids z).map ((fun k => firstR (sortR k)) ∘ toRF F rk) = (F.kids z).map (lsF F rk) := by
    refine List.map_congr_left fun k hk => ?_
    have hkk := h.kid z hz k hk
    exact (toRF_srt h (fun _ => true) hkk.1 (Nat.le_refl _) fun _ _ => rfl).2
  rw [this] at h1; exact h1
theorem map_sep {f : Nat → ByteArray} {l : List Nat} (h : (l.map f).Nodup) : l.Nodup ∧ Sep f l := by
  unfold List.Nodup at h
  rw [List.pairwise_map] at h
  refine ⟨h.imp fun h e => h (by rw [e]), fun x hx y hy e => ?_⟩
  obtain ⟨i, hi, rfl⟩ := List.getElem_of_mem hx
  obtain ⟨j, hj, rfl⟩ := List.getElem_of_mem hy
  have hp := List.pairwise_iff_getElem.1 h
  rcases Nat.lt_trichotomy i j with c | c | c
  · exact absurd e (hp i j hi hj c)
  · subst c; rfl
  · exact absurd e.symm (hp j i hj hi c)
theorem small_sep {f : Nat → ByteArray} {l : List Nat} (h : l.length ≤ 1) : l.Nodup ∧ Sep f l := by
  match l with
  | [] => exact ⟨List.nodup_nil, fun x hx => by cases hx⟩
  | [a] => exact ⟨by simp, fun x hx y hy _ => by simp at hx hy; rw [hx, hy]⟩
  | a :: b :: l => simp at h
theorem good_nodes (h : Wf F n rk) : ∀ (d i : Nat), rk i ≤ d → i < n → GoodR (toRF F rk i) → (nodesF F rk i).Nodup
  | d, i, hd, hi, hg => by
    rw [nodesF_eq h hi, List.nodup_cons]
    have hsub : ∀ k ∈ F.kids i, toRF F rk k ∈ subR (toRF F rk i) := fun k hk => rose_part h hi (subF_kid h hi hk (subF_self h (h.kid i hi k hk).1))
    have hgk : ∀ k ∈ F.kids i, GoodR (toRF F rk k) := fun k hk => ⟨fun s hs => hg.inn s (subR_trans _ (hsub k hk) hs), fun s hs => hg.lf s (subR_trans _ (hsub k hk) hs), (leafR_sub (hsub k hk)).nodup hg.nd⟩
    refine ⟨fun hm => ?_, ?_⟩
    · obtain ⟨k, hk, hm⟩ := List.mem_flatMap.1 hm
      have hkk := h.kid i hi k hk
      have := subD_rank h hkk.1 ((mem_nodesF h hkk.1 (Nat.le_refl _)).1 hm)
      omega
    · by_cases h0 : F.kids i = []
      · rw [h0]; simp
      · have hnd := hg.nd
        rw [toRF_eq h hi, leafR_node (by have := hg.inn _ (subR_self _); rw [toRF_nm h hi, toRF_kids h hi] at this; exact this (fun e => h0 (List.map_eq_nil_iff.1 e))), List.flatMap_map, List.nodup_iff_pairwise_ne, List.pairwise_flatMap] at hnd
        rw [List.nodup_iff_pairwise_ne, List.pairwise_flatMap]
        refine ⟨fun k hk => ?_, ?_⟩
        · have hkk := h.kid i hi k hk
          cases d with
          | zero => omega
          | succ d => exact good_nodes h d k (by omega) hkk.1 (hgk k hk)
        · refine hnd.2.imp_of_mem ?_
          intro a b ha hb hab x hx y hy e
          subst e
          have hka := h.kid i hi a ha
          have hkb := h.kid i hi b hb
          have h1 := rose_part h hka.1 ((mem_nodesF h hka.1 (Nat.le_refl _)).1 hx)
          have h2 := rose_part h hkb.1 ((mem_nodesF h hkb.1 (Nat.le_refl _)).1 hy)
          have hf := first_leaf (toRF F rk x) fun s hs => (hgk a ha).lf s (subR_trans _ h1 hs)
          exact hab _ ((leafR_sub h1).subset hf) _ ((leafR_sub h2).subset hf) rfl
end
end Go.Proofs.YtpjijbophjdgaaaGreat
namespace Go.Proofs.YtpjijbophjdgaaaGreat
section
variable {F : Frs} {n : Nat} {rk : Nat → Nat}
theorem num_sub2 (h : Wf F n rk) : ∀ {d i : Nat} (p : Option Nat) (np : Int) (s : Num), i < n → rk i ≤ d → (nodesF F rk i).Nodup → p ≠ some i → s.mp.lookup p = some np → (∀ j ∈ nodesF F rk i, s.mp.lookup (some j) = none) →
    NumTo s ((seqF F rk i p).foldl (numS F) s) (psR (toRF F rk i) s.ps.length np) (nsR (toRF F rk i)) (nodesF F rk i) := by
  intro d
  induction d with
  | zero =>
    intro i p np s hi hd hnd0 hp hl hn
    have hk : F.kids i = [] := by
      cases hk : F.kids i with
      | nil => rfl
      | cons k l => have := (h.kid i hi k (by rw [hk]; simp)).2; omega
    rw [seqF_eq h hi, toRF_eq h hi, nodesF_eq h hi, hk]
    have hni := hn i (by rw [nodesF_eq h hi]; simp)
    refine ⟨?_, ?_, fun k hk2 => lookup_putI_ne _ (hk2 i (by simp))⟩
    · show s.ps ++ [((putI s.mp (some i) _).lookup p).getD 0] = _
      rw [lookup_putI_ne _ hp, hl]; rfl
    · rfl
  | succ d ih =>
    intro i p np s hi hd hnd0 hp hl hn
    rw [seqF_eq h hi, toRF_eq h hi, nodesF_eq h hi]
    have hni := hn i (by rw [nodesF_eq h hi]; simp)
    have hnd := hnd0
    rw [nodesF_eq h hi, List.nodup_cons] at hnd
    have key : ∀ (l : List Nat), (∀ k ∈ l, k ∈ F.kids i) → (l.flatMap fun k => nodesF F rk k).Nodup → (∀ k ∈ l, i ∉ nodesF F rk k) → ∀ (s2 : Num) (own : Nat), s2.mp.lookup (some i) = some (own : Int) → (∀ k ∈ l, ∀ j ∈ nodesF F rk k, s2.mp.lookup (some j) = none) →
        NumTo s2 ((l.flatMap fun k => seqF F rk k (some i)).foldl (numS F) s2) (psRs (l.map (toRF F rk)) own s2.ps.length) (nsRs (l.map (toRF F rk))) (l.flatMap fun k => nodesF F rk k) := by
      intro l
      induction l with
      | nil => intro _ _ _ s2 own _ _; exact ⟨by simp [psRs], by simp [nsRs], fun _ _ => rfl⟩
      | cons c l ihl =>
        intro hin hdl hil s2 own ho hno
        have hcc := h.kid i hi c (hin c (by simp))
        rw [List.flatMap_cons, List.foldl_append, List.flatMap_cons]
        rw [List.flatMap_cons, List.nodup_append] at hdl
        have h1 := ih (some i) (own : Int) s2 hcc.1 (by omega) hdl.1 (fun e => by
          injection e with e
          have := hcc.2; rw [e] at this; omega) ho (hno c (by simp))
        have h2 := ihl (fun k hk => hin k (by simp [hk])) hdl.2.1 (fun k hk => hil k (by simp [hk])) ((seqF F rk c (some i)).foldl (numS F) s2) own
          ((h1.old (some i) (fun j hj e => by injection e with e; subst e; exact hil c (by simp) hj)).trans ho)
          (fun k hk j hj => (h1.old (some j) (fun j2 hj2 e => by
            injection e with e; subst e
            exact hdl.2.2 j hj2 j (List.mem_flatMap.2 ⟨k, hk, hj⟩) rfl)).trans (hno k (by simp [hk]) j hj))
        refine ⟨?_, ?_, fun k hk => ?_⟩
        · rw [h2.ps, h1.ps, List.map_cons, psRs, List.append_assoc, List.length_append, psR_len]
        · rw [h2.ns, h1.ns, List.map_cons, nsRs, List.append_assoc]
        · rw [h2.old k (fun j hj => hk j (by simp [hj])), h1.old k (fun j hj => hk j (by simp [hj]))]
    have hin : ∀ k ∈ F.kids i, i ∉ nodesF F rk k := fun k hk hm => hnd.1 (List.mem_flatMap.2 ⟨k, hk, hm⟩)
    have h3 := key (F.kids i) (fun k hk => hk) hnd.2 hin (numS F s (i, p)) s.ps.length (lookup_putI_new _ hni) (fun k hk j hj => by
      show (putI s.mp (some i) _).lookup (some j) = none
      rw [lookup_putI_ne _ (fun e => by injection e with e; subst e; exact hin k hk hj)]
      exact hn j (by rw [nodesF_eq h hi]; exact List.mem_cons_of_mem _ (List.mem_flatMap.2 ⟨k, hk, hj⟩)))
    have hps : (numS F s (i, p)).ps = s.ps ++ [np] := by
      show s.ps ++ [((putI s.mp (some i) _).lookup p).getD 0] = _
      rw [lookup_putI_ne _ hp, hl]; rfl
    rw [List.foldl_cons]
    refine ⟨?_, ?_, fun k hk => ?_⟩
    · rw [h3.ps, hps, psR, List.append_assoc, List.length_append]; rfl
    · rw [h3.ns]
      show (s.ns ++ [F.nm i]) ++ _ = _
      rw [nsR, List.append_assoc]; rfl
    · rw [h3.old k (fun j hj => hk j (by simp [hj]))]
      exact lookup_putI_ne _ (hk i (by simp))
theorem treeF_flat2 (h : Wf F n rk) {i : Nat} (hi : i < n) (hnd : (nodesF F rk i).Nodup) : treeF F rk i = flat (toRF F rk i) := by
  have h1 := num_sub2 h (d := rk i) none (-1) num0 hi (Nat.le_refl _) hnd (fun e => by cases e) rfl (fun j _ => rfl)
  unfold treeF flat numL
  rw [h1.ps, h1.ns]
  rfl
theorem ct_sortable (h : Wf F n rk) {i : Nat} (hi : i < n) (hg : GoodR (toRF F rk i)) (hl : ∀ z, z < n → (F.kids z).length ≤ 1000) (hout : ∀ z, z < n → subF F rk i z = false → (F.kids z).length ≤ 1) : Sortable (F.sub rk (ctQ F rk) i) n rk := by
  have hw := ct_wf h i
  have hlen : ∀ z, ((F.sub rk (ctQ F rk) i).kids z).length = (F.kids z).length := fun z => by
    show (if _ then _ else _ : List Nat).length = _
    split
    · unfold ctQ; split
      · rfl
      · rw [List.length_map]
    · rfl
  have hr := cr_ok h hi (Nat.le_refl _)
  have hgr : GoodR (toRF (F.sub rk (ctQ F rk) i) rk (cr F rk i)) := by
    rw [ct_rose h hi (rk i) i (Nat.le_refl _) hi (subF_self h hi)]; exact good_contr hg
  have key : ∀ z, z < n → ((F.sub rk (ctQ F rk) i).kids z).Nodup ∧ Sep (lsF (F.sub rk (ctQ F rk) i) rk) ((F.sub rk (ctQ F rk) i).kids z) := fun z hz => by
    by_cases h1 : (F.kids z).length ≤ 1
    · exact small_sep (by rw [hlen]; exact h1)
    · cases hs : subF F rk i z with
      | false => exact absurd (hout z hz hs) h1
      | true => exact map_sep (good_sep hw hr.1 hgr hz (ct_reach h hi (rk i) i z (Nat.le_refl _) hi (subF_self h hi) hs (by omega)))
  exact ⟨hw, fun z hz => (key z hz).2, fun z hz => (key z hz).1, fun z hz => by rw [hlen]; exact hl z hz⟩
theorem srt_tree (h : Wf F n rk) {i : Nat} (hi : i < n) (hg : GoodR (toRF F rk i)) {p : Nat → Bool} (hp : ∀ j, subF F rk i j = true → p j = true) :
    treeF (F.srt rk p) rk i = flat (sortR (toRF F rk i)) ∧ (seqF (F.srt rk p) rk i none).length = sizeR (toRF F rk i) := by
  have he := (toRF_srt h p hi (Nat.le_refl _) hp).1
  have hw := h.srt p
  have hg2 : GoodR (toRF (F.srt rk p) rk i) := by rw [he]; exact hg.sort
  refine ⟨by rw [treeF_flat2 hw hi (good_nodes hw _ i (Nat.le_refl _) hi hg2), he], ?_⟩
  have h1 := congrArg List.length (subR_toRF hw hi (Nat.le_refl _))
  rw [List.length_map, subR_len, he, sizeR_sort] at h1
  rw [h1]; unfold nodesF; rw [List.length_map]
end
end Go.Proofs.YtpjijbophjdgaaaGreat
