/- The tree of a forest whose rose tree is good: plain. The forest that pruned leaves: plain. SharederrorClades, plain: the tree whose leaves are renamed, the lists of the leaves below its nodes. The last common ancestor of two nodes, plain. -/
import Derived.Test.YtpjijbophjdgaaaGreatQ27
import Derived.Test.YtpjijbophjdgaaaGreatQ26
import Derived.Test.YtpjijbophjdgaaaGreatQ25
namespace Go.Proofs.YtpjijbophjdgaaaGreat
section
variable {F : Frs} {n : Nat} {rk : Nat → Nat}
theorem num_sub2 (h : Wf F n rk) : ∀ {d i : Nat} (p : Option Nat) (np : Int) (s : Num), i < n → rk i ≤ d → (nodesF F rk i).Nodup → p ≠ some i → s.mp.lookup p = some np → (∀ j ∈ nodesF F rk i, s.mp.lookup (some j) = none) →
    NumTo s ((seqF F rk i p).foldl (numS F) s) (psR (toRF F rk i) s.ps.length np) (nsR (toRF F rk i)) (nodesF F rk i) := by
  intro d
  induction d with
  | zero =>
    intro i p np s hi hd hnd0 hp hl hn
    have hk : F.kids i = [] := by
      cases hk : F.kids i with
      | nil => rfl
      | cons k l => have := (h.kid i hi k (by rw [hk]; simp)).2; omega
    rw [seqF_eq h hi, toRF_eq h hi, nodesF_eq h hi, hk]
    have hni := hn i (by rw [nodesF_eq h hi]; simp)
    refine ⟨?_, ?_, fun k hk2 => lookup_putI_ne _ (hk2 i (by simp))⟩
    · show s.ps ++ [((putI s.mp (some i) _).lookup p).getD 0] = _
      rw [lookup_putI_ne _ hp, hl]; rfl
    · rfl
  | succ d ih =>
    intro i p np s hi hd hnd0 hp hl hn
    rw [seqF_eq h hi, toRF_eq h hi, nodesF_eq h hi]
    have hni := hn i (by rw [nodesF_eq h hi]; simp)
    have hnd := hnd0
    rw [nodesF_eq h hi, List.nodup_cons] at hnd
    have key : ∀ (l : List Nat), (∀ k ∈ l, k ∈ F.kids i) → (l.flatMap fun k => nodesF F rk k).Nodup → (∀ k ∈ l, i ∉ nodesF F rk k) → ∀ (s2 : Num) (own : Nat), s2.mp.lookup (some i) = some (own : Int) → (∀ k ∈ l, ∀ j ∈ nodesF F rk k, s2.mp.lookup (some j) = none) →
        NumTo s2 ((l.flatMap fun k => seqF F rk k (some i)).foldl (numS F) s2) (psRs (l.map (toRF F rk)) own s2.ps.length) (nsRs (l.map (toRF F rk))) (l.flatMap fun k => nodesF F rk k) := by
      intro l
      induction l with
      | nil => intro _ _ _ s2 own _ _; exact ⟨by simp [psRs], by simp [nsRs], fun _ _ => rfl⟩
      | cons c l ihl =>
        intro hin hdl hil s2 own ho hno
        have hcc := h.kid i hi c (hin c (by simp))
        rw [List.flatMap_cons, List.foldl_append, List.flatMap_cons]
        rw [List.flatMap_cons, List.nodup_append] at hdl
        have h1 := ih (some i) (own : Int) s2 hcc.1 (by omega) hdl.1 (fun e => by
          injection e with e
          have := hcc.2; rw [e] at this; omega) ho (hno c (by simp))
        have h2 := ihl (fun k hk => hin k (by simp [hk])) hdl.2.1 (fun k hk => hil k (by simp [hk])) ((seqF F rk c (some i)).foldl (numS F) s2) own
          ((h1.old (some i) (fun j hj e => by injection e with e; subst e; exact hil c (by simp) hj)).trans ho)
          (fun k hk j hj => (h1.old (some j) (fun j2 hj2 e => by
            injection e with e; subst e
            exact hdl.2.2 j hj2 j (List.mem_flatMap.2 ⟨k, hk, hj⟩) rfl)).trans (hno k (by simp [hk]) j hj))
        refine ⟨?_, ?_, fun k hk => ?_⟩
        · rw [h2.ps, h1.ps, List.map_cons, psRs, List.append_assoc, List.length_append, psR_len]
        · rw [h2.ns, h1.ns, List.map_cons, nsRs, List.append_assoc]
        · rw [h2.old k (fun j hj => hk j (by simp [hj])), h1.old k (fun j hj => hk j (by simp [hj]))]
    have hin : ∀ k ∈ F.kids i, i ∉ nodesF F rk k := fun k hk hm => hnd.1 (List.mem_flatMap.2 ⟨k, hk, hm⟩)
    have h3 := key (F.kids i) (fun k hk => hk) hnd.2 hin (numS F s (i, p)) s.ps.length (lookup_putI_new _ hni) (fun k hk j hj => by
      show (putI s.mp (some i) _).lookup (some j) = none
      rw [lookup_putI_ne _ (fun e => by injection e with e; subst e; exact hin k hk hj)]
      exact hn j (by rw [nodesF_eq h hi]; exact List.mem_cons_of_mem _ (List.mem_flatMap.2 ⟨k, hk, hj⟩)))
    have hps : (numS F s (i, p)).ps = s.ps ++ [np] := by
      show s.ps ++ [((putI s.mp (some i) _).lookup p).getD 0] = _
      rw [lookup_putI_ne _ hp, hl]; rfl
    rw [List.foldl_cons]
    refine ⟨?_, ?_, fun k hk => ?_⟩
    · rw [h3.ps, hps, psR, List.append_assoc, List.length_append]; rfl
    · rw [h3.ns]
      show (s.ns ++ [F.nm i]) ++ _ = _
      rw [nsR, List.append_assoc]; rfl
    · rw [h3.old k (fun j hj => hk j (by simp [hj]))]
      exact lookup_putI_ne _ (hk i (by simp))
theorem treeF_flat2 (h : Wf F n rk) {i : Nat} (hi : i < n) (hnd : (nodesF F rk i).Nodup) : treeF F rk i = flat (toRF F rk i) := by
  have h1 := num_sub2 h (d := rk i) none (-1) num0 hi (Nat.le_refl _) hnd (fun e => by cases e) rfl (fun j _ => rfl)
  unfold treeF flat numL
  rw [h1.ps, h1.ns]
  rfl
theorem ct_sortable (h : Wf F n rk) {i : Nat} (hi : i < n) (hg : GoodR (toRF F rk i)) (hl : ∀ z, z < n → (F.kids z).length ≤ 1000) (hout : ∀ z, z < n → subF F rk i z = false → (F.kids z).length ≤ 1) : Sortable (F.sub rk (ctQ F rk) i) n rk := by
  have hw := ct_wf h i
  have hlen : ∀ z, ((F.sub rk (ctQ F rk) i).kids z).length = (F.kids z).length := fun z => by
    show (if _ then _ else _ : List Nat).length = _
    split
    · unfold ctQ; split
      · rfl
      · rw [List.length_map]
    · rfl
  have hr := cr_ok h hi (Nat.le_refl _)
  have hgr : GoodR (toRF (F.sub rk (ctQ F rk) i) rk (cr F rk i)) := by
    rw [ct_rose h hi (rk i) i (Nat.le_refl _) hi (subF_self h hi)]; exact good_contr hg
  have key : ∀ z, z < n → ((F.sub rk (ctQ F rk) i).kids z).Nodup ∧ Sep (lsF (F.sub rk (ctQ F rk) i) rk) ((F.sub rk (ctQ F rk) i).kids z) := fun z hz => by
    by_cases h1 : (F.kids z).length ≤ 1
    · exact small_sep (by rw [hlen]; exact h1)
    · cases hs : subF F rk i z with
      | false => exact absurd (hout z hz hs) h1
      | true => exact map_sep (good_sep hw hr.1 hgr hz (ct_reach h hi (rk i) i z (Nat.le_refl _) hi (subF_self h hi) hs (by omega)))
  exact ⟨hw, fun z hz => (key z hz).2, fun z hz => (key z hz).1, fun z hz => by rw [hlen]; exact hl z hz⟩
theorem srt_tree (h : Wf F n rk) {i : Nat} (hi : i < n) (hg : GoodR (toRF F rk i)) {p : Nat → Bool} (hp : ∀ j, subF F rk i j = true → p j = true) :
    treeF (F.srt rk p) rk i = flat (sortR (toRF F rk i)) ∧ (seqF (F.srt rk p) rk i none).length = sizeR (toRF F rk i) := by
  have he := (toRF_srt h p hi (Nat.le_refl _) hp).1
  have hw := h.srt p
  have hg2 : GoodR (toRF (F.srt rk p) rk i) := by rw [he]; exact hg.sort
  refine ⟨by rw [treeF_flat2 hw hi (good_nodes hw _ i (Nat.le_refl _) hi hg2), he], ?_⟩
  have h1 := congrArg List.length (subR_toRF hw hi (Nat.le_refl _))
  rw [List.length_map, subR_len, he, sizeR_sort] at h1
  rw [h1]; unfold nodesF; rw [List.length_map]
end
end Go.Proofs.YtpjijbophjdgaaaGreat
namespace Go.Proofs.YtpjijbophjdgaaaGreat
mutual
theorem size_contr : ∀ r : RT, sizeR (contrR r) ≤ sizeR r
  | .node nm [] => by rw [contrR]; exact Nat.le_refl _
  | .node nm [k] => by
    have := size_contr k
    rw [contrR, sizeR, sizeRs, sizeRs]; omega
  | .node nm (a :: b :: ks) => by
    have h1 := size_contr a
    have h2 := size_contr b
    have h3 := sizes_contr ks
    rw [contrR]
    simp only [sizeR, sizeRs]
    omega
theorem sizes_contr : ∀ rs : List RT, sizeRs (contrRs rs) ≤ sizeRs rs
  | [] => by rw [contrRs]; exact Nat.le_refl _
  | r :: rs => by
    have h1 := size_contr r
    have h2 := sizes_contr rs
    rw [contrRs, sizeRs, sizeRs]; omega
end
section
variable {F : Frs} {n : Nat} {rk : Nat → Nat} {P : Nat → Bool}
theorem pr_kids {i z : Nat} (hs : subF F rk i z = true) : (F.sub rk (prQ F P rk) i).kids z = (F.kids z).filter (al F P rk) := by
  show (if _ then _ else _) = _
  rw [if_pos hs]; rfl
theorem pr_mem {i z j : Nat} (hj : j ∈ (F.sub rk (prQ F P rk) i).kids z) : j ∈ F.kids z := by
  have hj : j ∈ if _ then _ else _ := hj
  split at hj
  · exact (List.mem_filter.1 hj).1
  · exact hj
theorem pr_wf (h : Wf F n rk) (i : Nat) : Wf (F.sub rk (prQ F P rk) i) n rk := ⟨fun z hz j hj => h.kid z hz j (pr_mem hj)⟩
theorem pr_len (hl : ∀ z, z < n → (F.kids z).length ≤ 1000) (i z : Nat) (hz : z < n) : ((F.sub rk (prQ F P rk) i).kids z).length ≤ 1000 := by
  show (if _ then _ else _ : List Nat).length ≤ _
  split
  · exact Nat.le_trans (List.length_filter_le _ _) (hl z hz)
  · exact hl z hz
theorem pr_below (h : Wf F n rk) (i : Nat) : ∀ (d x z : Nat), rk x ≤ d → x < n → subF (F.sub rk (prQ F P rk) i) rk x z = true → subF F rk x z = true
  | d, x, z, hd, hx, hs => by
    rcases subF_cases (pr_wf h i) hx hs with e | ⟨k, hk, h2⟩
    · subst e; exact subF_self h hx
    · have hk := pr_mem hk
      have hkk := h.kid x hx k hk
      cases d with
      | zero => omega
      | succ d => exact subF_kid h hx hk (pr_below h i d k z (by omega) hkk.1 h2)
theorem pr_alive (h : Wf F n rk) {i : Nat} (hi : i < n) : ∀ (d x z : Nat), rk x ≤ d → x < n → subF F rk i x = true → al F P rk x = true → subF (F.sub rk (prQ F P rk) i) rk x z = true → al F P rk z = true
  | d, x, z, hd, hx, hix, ha, hs => by
    rcases subF_cases (pr_wf h i) hx hs with e | ⟨k, hk, h2⟩
    · subst e; exact ha
    · rw [pr_kids hix] at hk
      obtain ⟨hk, hka⟩ := List.mem_filter.1 hk
      have hkk := h.kid x hx k hk
      cases d with
      | zero => omega
      | succ d => exact pr_alive h hi d k z (by omega) hkk.1 (sub_trans h hi (Nat.le_refl _) hix (subF_kid h hx hk (subF_self h hkk.1))) hka h2
theorem pr_reach (h : Wf F n rk) {i : Nat} (hi : i < n) : ∀ (d x z : Nat), rk x ≤ d → x < n → subF F rk i x = true → subF F rk x z = true → al F P rk z = true → al F P rk x = true ∧ subF (F.sub rk (prQ F P rk) i) rk x z = true
  | d, x, z, hd, hx, hix, hs, ha => by
    rcases subF_cases h hx hs with e | ⟨k, hk, h2⟩
    · subst e; exact ⟨ha, subF_self (pr_wf h i) hx⟩
    · have hkk := h.kid x hx k hk
      cases d with
      | zero => omega
      | succ d =>
        obtain ⟨h3, h4⟩ := pr_reach h hi d k z (by omega) hkk.1 (sub_trans h hi (Nat.le_refl _) hix (subF_kid h hx hk (subF_self h hkk.1))) h2 ha
        refine ⟨?_, subF_kid (pr_wf h i) hx (by rw [pr_kids hix]; exact List.mem_filter.2 ⟨hk, h3⟩) h4⟩
        rw [al_eq h hx, if_neg fun e => by rw [e] at hk; cases hk]
        exact List.any_eq_true.2 ⟨k, hk, h3⟩
theorem pr_dis (h : Wf F n rk) {i : Nat} (hi : i < n) (hD : Dis F n rk i) : Dis (F.sub rk (prQ F P rk) i) n rk i := fun z hz hs => by
  have hs2 := pr_below h i _ i z (Nat.le_refl _) hi hs
  obtain ⟨h1, h2⟩ := hD z hz hs2
  refine ⟨by rw [pr_kids hs2]; exact h1.filter _, fun x hx y hy j a b => ?_⟩
  have hx := pr_mem hx
  have hy := pr_mem hy
  exact h2 x hx y hy j (pr_below h i _ x j (Nat.le_refl _) (h.kid z hz x hx).1 a) (pr_below h i _ y j (Nat.le_refl _) (h.kid z hz y hy).1 b)
theorem pr_out (h : Wf F n rk) {i : Nat} (hi : i < n) (hall : ∀ z, z < n → subF F rk i z = true) : ∀ z, z < n → subF (F.sub rk (prQ F P rk) i) rk i z = false → ((F.sub rk (prQ F P rk) i).kids z).length ≤ 1 := fun z hz hs => by
  have h1 := hall z hz
  rw [pr_kids h1]
  have : (F.kids z).filter (al F P rk) = [] := by
    rw [List.filter_eq_nil_iff]
    intro k hk ha
    have hkk := h.kid z hz k hk
    have hza : al F P rk z = true := by
      rw [al_eq h hz, if_neg fun e => by rw [e] at hk; cases hk]
      exact List.any_eq_true.2 ⟨k, hk, ha⟩
    rw [(pr_reach h hi _ i z (Nat.le_refl _) hi (subF_self h hi) h1 hza).2] at hs
    cases hs
  rw [this]; exact Nat.zero_le _
theorem sublist_flatMap {f g : Nat → List ByteArray} {p : Nat → Bool} : ∀ l : List Nat, (∀ k ∈ l, p k = true → (f k).Sublist (g k)) → ((l.filter p).flatMap f).Sublist (l.flatMap g)
  | [], _ => List.Sublist.refl _
  | a :: l, h => by
    have ih := sublist_flatMap l fun k hk => h k (by simp [hk])
    rw [List.flatMap_cons]
    by_cases ha : p a = true
    · rw [List.filter_cons_of_pos ha, List.flatMap_cons]
      exact (h a (by simp) ha).append ih
    · rw [List.filter_cons_of_neg ha]
      exact ih.trans (List.sublist_append_right _ _)
theorem pr_part (h : Wf F n rk) {i : Nat} (hi : i < n) (hg : GoodR (toRF F rk i)) (ha : al F P rk i = true) {s : RT} (hs : s ∈ subR (toRF (F.sub rk (prQ F P rk) i) rk i)) :
    ∃ z, z < n ∧ subF F rk i z = true ∧ al F P rk z = true ∧ s = toRF (F.sub rk (prQ F P rk) i) rk z ∧ (s.kids ≠ [] → s.nm.size = 0) ∧ (s.kids = [] → F.kids z = [] ∧ namedB s.nm.data.toList = true) := by
  have hw := pr_wf (P := P) h i
  rw [subR_toRF hw hi (Nat.le_refl _)] at hs
  obtain ⟨z, hz, rfl⟩ := List.mem_map.1 hs
  have hsz := (mem_nodesF hw hi (Nat.le_refl _)).1 hz
  have hzn := subF_lt hw hi (Nat.le_refl _) hsz
  have hs2 := pr_below h i _ i z (Nat.le_refl _) hi hsz
  have hza := pr_alive h hi _ i z (Nat.le_refl _) hi (subF_self h hi) ha hsz
  have hpart := rose_part h hi hs2
  refine ⟨z, hzn, hs2, hza, rfl, fun hk => ?_, fun hk => ?_⟩
  · rw [toRF_nm hw hzn]
    have := hg.inn _ hpart
    rw [toRF_nm h hzn, toRF_kids h hzn] at this
    refine this fun e => hk ?_
    rw [toRF_kids hw hzn, pr_kids hs2, List.map_eq_nil_iff.1 e]; rfl
  · rw [toRF_kids hw hzn, pr_kids hs2, List.map_eq_nil_iff, List.filter_eq_nil_iff] at hk
    have h0 : F.kids z = [] := by
      by_cases c : F.kids z = []
      · exact c
      · rw [al_eq h hzn, if_neg c] at hza
        obtain ⟨k, hk2, hka⟩ := List.any_eq_true.1 hza
        exact absurd hka (hk k hk2)
    refine ⟨h0, ?_⟩
    rw [toRF_nm hw hzn]
    have := hg.lf _ hpart
    rw [toRF_nm h hzn, toRF_kids h hzn] at this
    exact this (by rw [h0]; rfl)
theorem pr_leaf (h : Wf F n rk) {i : Nat} (hi : i < n) (hg : GoodR (toRF F rk i)) (ha : al F P rk i = true) : ∀ (d z : Nat), rk z ≤ d → z < n → subF F rk i z = true → al F P rk z = true → (leafR (toRF (F.sub rk (prQ F P rk) i) rk z)).Sublist (leafR (toRF F rk z))
  | d, z, hd, hz, hs, hza => by
    have hw := pr_wf (P := P) h i
    rw [toRF_eq h hz, toRF_eq hw hz, pr_kids hs]
    have hn := rose_part h hi hs
    by_cases h0 : F.kids z = []
    · rw [h0]; exact List.Sublist.refl _
    · have hz0 : (F.nm z).size = 0 := by
        have := hg.inn _ hn
        rw [toRF_nm h hz, toRF_kids h hz] at this
        exact this fun e => h0 (List.map_eq_nil_iff.1 e)
      rw [leafR_node hz0, leafR_node (show ((F.sub rk (prQ F P rk) i).nm z).size = 0 from hz0), List.flatMap_map, List.flatMap_map]
      refine sublist_flatMap _ fun k hk hka => ?_
      have hkk := h.kid z hz k hk
      cases d with
      | zero => omega
      | succ d => exact pr_leaf h hi hg ha d k (by omega) hkk.1 (sub_trans h hi (Nat.le_refl _) hs (subF_kid h hz hk (subF_self h hkk.1))) hka
theorem pr_good (h : Wf F n rk) {i : Nat} (hi : i < n) (hg : GoodR (toRF F rk i)) (ha : al F P rk i = true) : GoodR (toRF (F.sub rk (prQ F P rk) i) rk i) := by
  refine ⟨fun s hs hk => ?_, fun s hs hk => ?_, (pr_leaf h hi hg ha _ i (Nat.le_refl _) hi (subF_self h hi) ha).nodup hg.nd⟩
  · obtain ⟨_, _, _, _, _, h1, _⟩ := pr_part h hi hg ha hs
    exact h1 hk
  · obtain ⟨_, _, _, _, _, _, h1⟩ := pr_part h hi hg ha hs
    exact (h1 hk).2
theorem good_size (h : Wf F n rk) {i : Nat} (hi : i < n) (hg : GoodR (toRF F rk i)) : sizeR (toRF F rk i) ≤ n := by
  rw [← subR_len, subR_toRF h hi (Nat.le_refl _), List.length_map]
  exact nodup_le (good_nodes h _ i (Nat.le_refl _) hi hg) fun x hx => subF_lt h hi (Nat.le_refl _) ((mem_nodesF h hi (Nat.le_refl _)).1 hx)
end
theorem all_below {t : Tre} (h : treeErr t = 0) : ∀ (d z : Nat), z ≤ d → z < t.ps.length → subF (frT t) (rkT t) 0 z = true
  | d, z, hd, hz => by
    obtain ⟨hp, _, _, hok, _⟩ := treeErr_zero h
    have hw := (frT_arb h).wf
    by_cases h0 : z = 0
    · subst h0; exact subF_self hw hz
    · obtain ⟨h1, h2⟩ := pOkB_par hok hz (by omega)
      obtain ⟨q, hq⟩ : ∃ q : Nat, gi t.ps z = q := ⟨(gi t.ps z).toNat, by omega⟩
      cases d with
      | zero => omega
      | succ d =>
        have ih := all_below h d q (by omega) (by omega)
        exact sub_trans hw hp (Nat.le_refl _) ih (subF_kid hw (show q < t.ps.length by omega) (by rw [frT_kids]; exact mem_kidsL.2 ⟨hz, by omega, hq⟩) (subF_self hw hz))
end Go.Proofs.YtpjijbophjdgaaaGreat
namespace Go.Proofs.YtpjijbophjdgaaaGreat
section
variable {t : Tre}
theorem hit_chain {ps : List Int} (hp : pOkB ps = true) {i k : Nat} (hik : i ≤ k) : ∀ (d j : Nat), j ≤ d → j < ps.length → hitB ps i j = true → hitB ps k j = true → hitB ps i k = true
  | d, j, hd, hj, h1, h2 => by
    have hkj := hit_le hp hj h2
    by_cases e : j = k
    · subst e; exact h1
    · obtain ⟨p0, pj⟩ := pOkB_par hp hj (by omega)
      rw [hit_step hp hj (by omega)] at h1 h2
      cases d with
      | zero => omega
      | succ d => exact hit_chain hp hik d (gi ps j).toNat (by omega) (by omega) h1 h2
end
end Go.Proofs.YtpjijbophjdgaaaGreat
namespace Go.Proofs.YtpjijbophjdgaaaGreat
def ancD (ps : List Int) : Nat → Nat → Nat → Nat
  | 0, a, _ => a
  | d + 1, a, b => if a = b then a else if b < a then ancD ps d (gi ps a).toNat b else ancD ps d a (gi ps b).toNat
def ancN (ps : List Int) (a b : Nat) : Nat := ancD ps (a + b) a b
section
variable {ps : List Int}
theorem ancD_fuel (hp : pOkB ps = true) : ∀ {d e a b : Nat}, a < ps.length → b < ps.length → a + b ≤ d → a + b ≤ e → ancD ps d a b = ancD ps e a b
  | 0, 0, a, b, _, _, _, _ => rfl
  | 0, e + 1, a, b, _, _, hd, _ => by
    obtain rfl : a = 0 := by omega
    obtain rfl : b = 0 := by omega
    rw [ancD, ancD, if_pos rfl]
  | d + 1, 0, a, b, _, _, _, he => by
    obtain rfl : a = 0 := by omega
    obtain rfl : b = 0 := by omega
    rw [ancD, ancD, if_pos rfl]
  | d + 1, e + 1, a, b, ha, hb, hd, he => by
    rw [ancD, ancD]
    by_cases h : a = b
    · rw [if_pos h, if_pos h]
    · rw [if_neg h, if_neg h]
      by_cases h2 : b < a
      · have := pOkB_par hp ha (by omega)
        rw [if_pos h2, if_pos h2]
        exact ancD_fuel hp (by omega) hb (by omega) (by omega)
      · have := pOkB_par hp hb (by omega)
        rw [if_neg h2, if_neg h2]
        exact ancD_fuel hp ha (by omega) (by omega) (by omega)
theorem ancN_self (a : Nat) : ancN ps a a = a := by
  unfold ancN
  cases a + a with
  | zero => rfl
  | succ d => rw [ancD, if_pos rfl]
theorem ancN_left (hp : pOkB ps = true) {a b : Nat} (ha : a < ps.length) (h : b < a) : ancN ps a b = ancN ps (gi ps a).toNat b := by
  have := pOkB_par hp ha (by omega)
  unfold ancN
  obtain ⟨d, hd⟩ : ∃ d, a + b = d + 1 := ⟨a + b - 1, by omega⟩
  rw [hd, ancD, if_neg (by omega), if_pos h]
  exact ancD_fuel hp (by omega) (by omega) (by omega) (by omega)
theorem ancN_right (hp : pOkB ps = true) {a b : Nat} (hb : b < ps.length) (h : a < b) : ancN ps a b = ancN ps a (gi ps b).toNat := by
  have := pOkB_par hp hb (by omega)
  unfold ancN
  obtain ⟨d, hd⟩ : ∃ d, a + b = d + 1 := ⟨a + b - 1, by omega⟩
  rw [hd, ancD, if_neg (by omega), if_neg (by omega)]
  exact ancD_fuel hp (by omega) (by omega) (by omega) (by omega)
theorem anc_hit (hp : pOkB ps = true) : ∀ (d a b : Nat), a + b ≤ d → a < ps.length → b < ps.length → hitB ps (ancN ps a b) a = true ∧ hitB ps (ancN ps a b) b = true ∧ ∀ n, hitB ps n a = true → hitB ps n b = true → hitB ps n (ancN ps a b) = true
  | d, a, b, hd, ha, hb => by
    rcases Nat.lt_trichotomy a b with h | h | h
    · have hpar := pOkB_par hp hb (by omega)
      rw [ancN_right hp hb h]
      cases d with
      | zero => omega
      | succ d =>
        obtain ⟨h1, h2, h3⟩ := anc_hit hp d a (gi ps b).toNat (by omega) ha (by omega)
        have hle := hit_le hp (show (gi ps b).toNat < ps.length by omega) h2
        refine ⟨h1, by rw [hit_step hp hb (by omega)]; exact h2, fun n h4 h5 => h3 n h4 ?_⟩
        have := hit_le hp ha h4
        rw [← hit_step hp hb (by omega)]; exact h5
    · subst h
      rw [ancN_self]
      exact ⟨hit_self a, hit_self a, fun n h _ => h⟩
    · have hpar := pOkB_par hp ha (by omega)
      rw [ancN_left hp ha h]
      cases d with
      | zero => omega
      | succ d =>
        obtain ⟨h1, h2, h3⟩ := anc_hit hp d (gi ps a).toNat b (by omega) (by omega) hb
        have hle := hit_le hp (show (gi ps a).toNat < ps.length by omega) h1
        refine ⟨by rw [hit_step hp ha (by omega)]; exact h1, h2, fun n h4 h5 => h3 n ?_ h5⟩
        have := hit_le hp hb h5
        rw [← hit_step hp ha (by omega)]; exact h4
theorem anc_lt (hp : pOkB ps = true) {a b : Nat} (ha : a < ps.length) (hb : b < ps.length) : ancN ps a b ≤ a ∧ ancN ps a b ≤ b := by
  obtain ⟨h1, h2, _⟩ := anc_hit hp _ a b (Nat.le_refl _) ha hb
  exact ⟨hit_le hp ha h1, hit_le hp hb h2⟩
end
end Go.Proofs.YtpjijbophjdgaaaGreat
