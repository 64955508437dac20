/- phylotree.contracted: what it does to the forest. The tree that phylotree.made makes: plain. -/
import Derived.Test.YtpjijbophjdgaaaGreatQ26
import Derived.Test.YtpjijbophjdgaaaGreatQ25
namespace Go.Proofs.YtpjijbophjdgaaaGreat
open Go.RowKit Go.Deep
section
variable {n base : Nat} {A : Nat → Nat} {kv : Nat → Value} {F : Frs} {w w' w2 : World} {rk : Nat → Nat}
def ctQ (F : Frs) (rk : Nat → Nat) (z : Nat) : List Nat := if (F.kids z).length = 1 then F.kids z else (F.kids z).map (cr F rk)
def ctU (F : Frs) (rk : Nat → Nat) (y k : Nat) : Frs := ⟨F.nm, F.old, fun z => if z = y then ((F.kids y).take k).map (cr F rk) ++ (F.kids y).drop k else (F.upto rk (ctQ F rk) (F.kids y) k).kids z⟩
def CtPost (base n : Nat) (A : Nat → Nat) (kv : Nat → Value) (F : Frs) (rk : Nat → Nat) (i : Nat) (w : World) (e : Ending) (w' : World) : Prop :=
  e = .returned (.pointer (some ⟨A (cr F rk i), 0, none⟩)) ∧ FAt base n A kv (F.sub rk (ctQ F rk) i) w' ∧ FUp n A kv w w'
theorem ct_chain (h : Wf F n rk) {y k : Nat} (hy : y < n) (hk : F.kids y = [k]) (z : Nat) : (F.sub rk (ctQ F rk) k).kids z = (F.sub rk (ctQ F rk) y).kids z := by
  show (if _ then _ else _) = if _ then _ else _
  by_cases e : z = y
  · subst e
    rw [subF_not h hy (by rw [hk]; simp), subF_self h hy, if_neg (by simp), if_pos rfl]
    unfold ctQ; rw [if_pos (by rw [hk]; rfl)]
  · rw [subF_eq h hy, hk, show (z == y) = false from beq_eq_false_iff_ne.2 e]
    simp
theorem ctU_zero (y z : Nat) : (ctU F rk y 0).kids z = F.kids z := by
  show (if _ then _ else _) = _
  split
  · rename_i e; subst e; simp
  · exact upto_zero _ _ _
theorem ctU_own (y k : Nat) : (ctU F rk y k).kids y = ((F.kids y).take k).map (cr F rk) ++ (F.kids y).drop k := by
  show (if _ then _ else _) = _
  rw [if_pos rfl]
theorem ctU_len (y k : Nat) : ((ctU F rk y k).kids y).length = (F.kids y).length := by
  rw [ctU_own, List.length_append, List.length_map, List.length_take, List.length_drop]; omega
theorem ctU_at {y k c : Nat} (hc : (F.kids y)[k]? = some c) : ((ctU F rk y k).kids y)[k]? = some c := by
  obtain ⟨hk, e⟩ := List.getElem?_eq_some_iff.1 hc
  rw [ctU_own, List.getElem?_append_right (by rw [List.length_map, List.length_take]; omega), List.length_map, List.length_take, List.getElem?_drop, show k + (k - min k (F.kids y).length) = k by omega]
  exact hc
theorem ctU_wf (h : Wf F n rk) {y : Nat} (hy : y < n) (k : Nat) : Wf (ctU F rk y k) n rk := ⟨fun i hi j hj => by
  have key : ∀ z, z < n → ∀ c ∈ F.kids z, cr F rk c < n ∧ rk (cr F rk c) < rk z := fun z hz c hc => by
    obtain ⟨h1, h2⟩ := h.kid z hz c hc
    obtain ⟨a, b, _⟩ := cr_ok h h1 (Nat.le_refl _)
    exact ⟨a, by omega⟩
  by_cases e : i = y
  · subst e
    rw [ctU_own, List.mem_append] at hj
    rcases hj with hj | hj
    · obtain ⟨c, hc, rfl⟩ := List.mem_map.1 hj
      exact key i hi c (List.mem_of_mem_take hc)
    · exact h.kid i hi j (List.mem_of_mem_drop hj)
  · have hj : j ∈ if i = y then _ else (F.upto rk (ctQ F rk) (F.kids y) k).kids i := hj
    rw [if_neg e] at hj
    have hj : j ∈ if _ then _ else _ := hj
    split at hj
    · unfold ctQ at hj
      split at hj
      · exact h.kid i hi j hj
      · obtain ⟨c, hc, rfl⟩ := List.mem_map.1 hj
        exact key i hi c hc
    · exact h.kid i hi j hj⟩
theorem ctU_fresh (h : Wf F n rk) {y k c : Nat} (hy : y < n) (hD : Dis F n rk y) (hc : (F.kids y)[k]? = some c) : ∀ z, subF F rk c z = true → (ctU F rk y k).kids z = F.kids z := fun z hs => by
  have hck := List.mem_of_getElem? hc
  have hne : z ≠ y := fun e => by subst e; rw [subF_not h hy hck] at hs; cases hs
  show (if _ then _ else _) = _
  rw [if_neg hne]
  exact upto_fresh h hy hD hc z hs
theorem ctU_small (hl : ∀ z, z < n → (F.kids z).length ≤ 1000) {y : Nat} (hy : y < n) (k z : Nat) (hz : z < n) : ((ctU F rk y k).kids z).length ≤ 1000 := by
  by_cases e : z = y
  · subst e; rw [ctU_len]; exact hl z hz
  · show (if z = y then _ else (F.upto rk (ctQ F rk) (F.kids y) k).kids z).length ≤ _
    rw [if_neg e]
    show (if _ then _ else _ : List Nat).length ≤ _
    split
    · unfold ctQ; split
      · exact hl z hz
      · rw [List.length_map]; exact hl z hz
    · exact hl z hz
theorem ctU_all (h : Wf F n rk) {y : Nat} (hy : y < n) (h1 : (F.kids y).length ≠ 1) (z : Nat) : (ctU F rk y (F.kids y).length).kids z = (F.sub rk (ctQ F rk) y).kids z := by
  by_cases e : z = y
  · subst e
    rw [ctU_own, List.take_length, List.drop_length, List.append_nil]
    show _ = if _ then _ else _
    rw [if_pos (subF_self h hy)]
    unfold ctQ; rw [if_neg h1]
  · show (if _ then _ else _) = _
    rw [if_neg e]
    exact upto_all h hy e
theorem FAt.setKid (h : FAt base n A kv F w) {y k c g m cap : Nat} (hy : y < n) (hv : kv y = .slice (some ⟨g, 0, none⟩) m cap) (hk : k < (F.kids y).length) (hc : c < n) :
    w.frozen? ⟨g, k, none⟩ = false ∧ (∃ x, w.cell? ⟨g, k, none⟩ = some x) ∧ FAt base n A kv { F with kids := upd F.kids y ((F.kids y).set k c) } (w.setCell ⟨g, k, none⟩ (nptr A c)) ∧ FUp n A kv w (w.setCell ⟨g, k, none⟩ (nptr A c)) := by
  obtain ⟨g2, cap2, e, hg, hgl, hcl, hfz, hset⟩ := (h.own y hy).set (j := k) (by simpa using hk)
  rw [hv] at e
  injection e with e1 e2 e3
  injection e1 with e1
  injection e1 with e1
  subst e1
  have hgy : (kv y).ownBlock = some g := by rw [hv]; rfl
  have hset := hset (nptr A c)
  rw [show ((F.kids y).map (nptr A)).set k (nptr A c) = ((F.kids y).set k c).map (nptr A) by rw [List.map_set]] at hset
  refine ⟨hfz, ⟨_, hcl⟩, ⟨fun i hi => ?_, h.lo, h.inj, fun i hi => ?_, h.apart, h.alone, fun i hi => ?_⟩, ?_⟩
  · rw [blk_setCell_other _ _ _ _ (fun e2 => h.apart y i hy hi (by rw [hgy, e2]))]; exact h.node i hi
  · by_cases e : i = y
    · subst e; simp only [upd_same]; exact hset
    · simp only [upd_ne _ _ e]; exact (h.own i hi).same fun b hb => blk_setCell_other _ _ _ _ (fun e2 => e (h.alone i y b hi hy hb (by rw [hgy, e2])))
  · by_cases e : i = y
    · subst e; simp only [upd_same]
      intro j hj
      rcases List.mem_or_eq_of_mem_set hj with h1 | h1
      · exact h.kid i hi j h1
      · rw [h1]; exact hc
    · simp only [upd_ne _ _ e]; exact h.kid i hi
  · exact ⟨rfl, rfl, rfl, by rw [World.size_setCell]; exact Nat.le_refl _, fun b hb _ hb2 => blk_setCell_other _ _ _ _ (fun e2 => hb2 y hy (by rw [hgy, e2]))⟩
theorem ct_step (hw : Wf F n rk) {y k c g m cap : Nat} (hy : y < n) (hD : Dis F n rk y) (hc : (F.kids y)[k]? = some c) (hv : kv y = .slice (some ⟨g, 0, none⟩) m cap)
    (h : FAt base n A kv ((ctU F rk y k).sub rk (ctQ (ctU F rk y k) rk) c) w2) :
    w2.cell? ⟨A y, 1, none⟩ = some (.slice (some ⟨g, 0, none⟩) m cap) ∧ w2.frozen? ⟨g, k, none⟩ = false ∧ (∃ x, w2.cell? ⟨g, k, none⟩ = some x) ∧ FAt base n A kv (ctU F rk y (k + 1)) (w2.setCell ⟨g, k, none⟩ (.pointer (some ⟨A (cr F rk c), 0, none⟩))) ∧ FUp n A kv w2 (w2.setCell ⟨g, k, none⟩ (.pointer (some ⟨A (cr F rk c), 0, none⟩))) := by
  have hck := List.mem_of_getElem? hc
  have hcn := (hw.kid y hy c hck).1
  have hG := ctU_wf hw hy k
  have hz := ctU_fresh hw hy hD hc
  have hsub := sub_cong hw hG hcn (Nat.le_refl _) hz
  obtain ⟨hkl, hke⟩ := List.getElem?_eq_some_iff.1 hc
  have hny : subF F rk c y = false := subF_not hw hy hck
  have hrow : ((ctU F rk y k).sub rk (ctQ (ctU F rk y k) rk) c).kids y = (ctU F rk y k).kids y := by
    show (if _ then _ else _) = _
    rw [hsub, hny, if_neg (by simp)]
  obtain ⟨h1, h4, h2, h3⟩ := h.setKid hy hv (k := k) (c := cr F rk c) (by rw [hrow, ctU_len]; exact hkl) (cr_ok hw hcn (Nat.le_refl _)).1
  refine ⟨by rw [h.kidv hy, hv], h1, h4, h2.congr2 fun z hzn => ⟨rfl, rfl, ?_⟩, h3⟩
  show _ = upd _ y _ z
  by_cases e : z = y
  · subst e
    rw [upd_same, hrow, ctU_own, ctU_own]
    have ht : ((F.kids z).take k).length = k := by rw [List.length_take]; omega
    rw [List.set_append_right _ _ (by rw [List.length_map, ht]; exact Nat.le_refl _), List.length_map, ht, Nat.sub_self]
    rw [List.take_add_one, hc, List.map_append, List.append_assoc]
    congr 1
    rw [List.drop_eq_getElem_cons hkl, List.set_cons_zero]; rfl
  · rw [upd_ne _ _ e]
    show (if _ then _ else _) = if _ then _ else _
    rw [if_neg e, upto_succ hc, hsub]
    split
    · rename_i hs
      unfold ctQ
      rw [hz z hs]
      split
      · rfl
      · refine List.map_congr_left fun j hj => ?_
        exact (cr_cong hw hG (hw.kid z hzn j hj).1 (Nat.le_refl _) fun u hu => hz u (sub_trans hw hcn (Nat.le_refl _) hs (subF_kid hw hzn hj hu))).symm
    · show _ = if _ then _ else _
      rw [if_neg e]
theorem rkAt_ex (hinj : ∀ i j, i < n → j < n → A i = A j → i = j) (rk : Nat → Nat) : ∃ m : Value → Nat, ∀ y, y < n → m (.pointer (some ⟨A y, 0, none⟩)) = rk y := by
  have h1 : ∀ v : Value, ∃ k : Nat, ∀ y, y < n → v = .pointer (some ⟨A y, 0, none⟩) → k = rk y := fun v => by
    by_cases h : ∃ y, y < n ∧ v = .pointer (some ⟨A y, 0, none⟩)
    · obtain ⟨y, hy, e⟩ := h
      refine ⟨rk y, fun z hz e2 => ?_⟩
      rw [e] at e2
      injection e2 with e2
      injection e2 with e2
      injection e2 with e2
      rw [hinj y z hy hz e2]
    · exact ⟨0, fun y hy e => absurd ⟨y, hy, e⟩ h⟩
  obtain ⟨m, hm⟩ := Classical.axiomOfChoice h1
  exact ⟨m, fun y hy => hm _ y hy rfl⟩
end
end Go.Proofs.YtpjijbophjdgaaaGreat
namespace Go.Proofs.YtpjijbophjdgaaaGreat
mutual
def contrR : RT → RT
  | .node nm [] => .node nm []
  | .node _ [k] => contrR k
  | .node nm (a :: b :: ks) => .node nm (contrR a :: contrR b :: contrRs ks)
def contrRs : List RT → List RT
  | [] => []
  | r :: rs => contrR r :: contrRs rs
end
theorem contrRs_map : ∀ l : List RT, contrRs l = l.map contrR
  | [] => rfl
  | r :: l => by rw [contrRs, contrRs_map l]; rfl
theorem contr_one (nm : ByteArray) (k : RT) : contrR (.node nm [k]) = contrR k := by rw [contrR]
theorem contr_many {nm : ByteArray} {ks : List RT} (h : ks.length ≠ 1) : contrR (.node nm ks) = .node nm (ks.map contrR) := by
  match ks with
  | [] => rw [contrR]; rfl
  | [k] => simp at h
  | a :: b :: ks => rw [contrR, contrRs_map]; rfl
theorem size_kid {nm : ByteArray} {ks : List RT} {k : RT} (h : k ∈ ks) : sizeR k < sizeR (.node nm ks) := by
  rw [sizeR]
  have : ∀ l : List RT, k ∈ l → sizeR k ≤ sizeRs l := fun l => by
    induction l with
    | nil => intro h; cases h
    | cons a l ih =>
      intro h
      rw [sizeRs]
      rcases List.mem_cons.1 h with rfl | h
      · omega
      · have := ih h; omega
  have := this ks h
  omega
theorem sub_contr : ∀ (d : Nat) (r s : RT), sizeR r ≤ d → s ∈ subR (contrR r) → ∃ u ∈ subR r, u.kids.length ≠ 1 ∧ s = .node u.nm (u.kids.map contrR)
  | 0, r, _, hd, _ => by have := sizeR_pos r; omega
  | d + 1, .node nm ks, s, hd, h => by
    by_cases h1 : ks.length = 1
    · obtain ⟨k, rfl⟩ := List.length_eq_one_iff.1 h1
      rw [contr_one] at h
      obtain ⟨u, hu, e⟩ := sub_contr d k s (by have := size_kid (nm := nm) (ks := [k]) (k := k) (by simp); omega) h
      exact ⟨u, subR_trans _ (mem_kid (by simp)) hu, e⟩
    · rw [contr_many h1, subR, List.mem_cons] at h
      rcases h with rfl | h
      · exact ⟨_, subR_self _, h1, rfl⟩
      · obtain ⟨q, hq, hs⟩ := mem_subRs_ex h
        obtain ⟨k, hk, rfl⟩ := List.mem_map.1 hq
        obtain ⟨u, hu, e⟩ := sub_contr d k s (by have := size_kid (nm := nm) hk; omega) hs
        exact ⟨u, subR_trans _ (mem_kid hk) hu, e⟩
theorem leaf_contr : ∀ (d : Nat) (r : RT), sizeR r ≤ d → (∀ s ∈ subR r, s.kids ≠ [] → s.nm.size = 0) → leafR (contrR r) = leafR r
  | 0, r, hd, _ => by have := sizeR_pos r; omega
  | d + 1, .node nm ks, hd, h => by
    have hk : ∀ k ∈ ks, leafR (contrR k) = leafR k := fun k hk => leaf_contr d k (by have := size_kid (nm := nm) hk; omega) fun s hs => h s (subR_trans _ (mem_kid hk) hs)
    by_cases h0 : ks = []
    · subst h0; rw [contrR]
    · have hz : nm.size = 0 := h _ (subR_self _) h0
      by_cases h1 : ks.length = 1
      · obtain ⟨k, rfl⟩ := List.length_eq_one_iff.1 h1
        rw [contr_one, hk k (by simp), leafR_node hz]; simp
      · rw [contr_many h1, leafR_node hz, leafR_node hz, List.flatMap_map]
        have : ∀ l : List RT, (∀ k ∈ l, leafR (contrR k) = leafR k) → l.flatMap (fun k => leafR (contrR k)) = l.flatMap leafR := fun l => by
          induction l with
          | nil => intro _; rfl
          | cons a l ih => intro h; rw [List.flatMap_cons, List.flatMap_cons, h a (by simp), ih fun k hk => h k (by simp [hk])]
        exact this ks hk
theorem good_contr {r : RT} (h : GoodR r) : GoodR (contrR r) := by
  refine ⟨fun s hs hk => ?_, fun s hs hk => ?_, ?_⟩
  · obtain ⟨u, hu, _, rfl⟩ := sub_contr _ r s (Nat.le_refl _) hs
    exact h.inn u hu fun e => hk (by show u.kids.map contrR = []; rw [e]; rfl)
  · obtain ⟨u, hu, _, rfl⟩ := sub_contr _ r s (Nat.le_refl _) hs
    exact h.lf u hu (List.map_eq_nil_iff.1 hk)
  · rw [leaf_contr _ r (Nat.le_refl _) h.inn]; exact h.nd
section
variable {F : Frs} {n : Nat} {rk : Nat → Nat}
theorem ct_wf (h : Wf F n rk) (i : Nat) : Wf (F.sub rk (ctQ F rk) i) n rk := ⟨fun z hz j hj => by
  have hj : j ∈ if _ then _ else _ := hj
  split at hj
  · unfold ctQ at hj
    split at hj
    · exact h.kid z hz j hj
    · obtain ⟨c, hc, rfl⟩ := List.mem_map.1 hj
      obtain ⟨h1, h2⟩ := h.kid z hz c hc
      obtain ⟨a, b, _⟩ := cr_ok h h1 (Nat.le_refl _)
      exact ⟨a, by omega⟩
  · exact h.kid z hz j hj⟩
theorem ct_kids {i z : Nat} (hs : subF F rk i z = true) (h1 : (F.kids z).length ≠ 1) : (F.sub rk (ctQ F rk) i).kids z = (F.kids z).map (cr F rk) := by
  show (if _ then _ else _) = _
  rw [if_pos hs]; unfold ctQ; rw [if_neg h1]
theorem ct_rose (h : Wf F n rk) {i : Nat} (hi : i < n) : ∀ (d z : Nat), rk z ≤ d → z < n → subF F rk i z = true → toRF (F.sub rk (ctQ F rk) i) rk (cr F rk z) = contrR (toRF F rk z)
  | d, z, hd, hz, hs => by
    by_cases h1 : (F.kids z).length = 1
    · obtain ⟨k, hk⟩ := List.length_eq_one_iff.1 h1
      have hkk := h.kid z hz k (by rw [hk]; simp)
      cases d with
      | zero => omega
      | succ d =>
        rw [cr_one h hz hk, toRF_eq h hz, hk, List.map_cons, List.map_nil, contr_one]
        exact ct_rose h hi d k (by omega) hkk.1 (sub_trans h hi (Nat.le_refl _) hs (subF_kid h hz (by rw [hk]; simp) (subF_self h hkk.1)))
    · rw [cr_self h hz h1, toRF_eq h hz, contr_many (by rw [List.length_map]; exact h1), toRF_eq (ct_wf h i) hz, ct_kids hs h1, List.map_map, List.map_map]
      congr 1
      refine List.map_congr_left fun k hk => ?_
      have hkk := h.kid z hz k hk
      cases d with
      | zero => omega
      | succ d => exact ct_rose h hi d k (by omega) hkk.1 (sub_trans h hi (Nat.le_refl _) hs (subF_kid h hz hk (subF_self h hkk.1)))
theorem ct_reach (h : Wf F n rk) {i : Nat} (hi : i < n) : ∀ (d y z : Nat), rk y ≤ d → y < n → subF F rk i y = true → subF F rk y z = true → (F.kids z).length ≠ 1 → subF (F.sub rk (ctQ F rk) i) rk (cr F rk y) z = true
  | d, y, z, hd, hy, hs, hz, h1 => by
    have hc := cr_ok h hy (Nat.le_refl _)
    rcases subF_cases h hy hz with e | ⟨k, hk, h2⟩
    · subst e; rw [cr_self h hy h1]; exact subF_self (ct_wf h i) hy
    · have hkk := h.kid y hy k hk
      have hsk := sub_trans h hi (Nat.le_refl _) hs (subF_kid h hy hk (subF_self h hkk.1))
      cases d with
      | zero => omega
      | succ d =>
        have ih := ct_reach h hi d k z (by omega) hkk.1 hsk h2 h1
        by_cases h3 : (F.kids y).length = 1
        · obtain ⟨q, hq⟩ := List.length_eq_one_iff.1 h3
          rw [hq] at hk
          have : k = q := by simpa using hk
          subst this
          rw [cr_one h hy hq]; exact ih
        · rw [cr_self h hy h3]
          exact subF_kid (ct_wf h i) hy (by rw [ct_kids hs h3]; exact List.mem_map.2 ⟨k, hk, rfl⟩) ih
theorem rose_part (h : Wf F n rk) {i z : Nat} (hi : i < n) (hs : subF F rk i z = true) : toRF F rk z ∈ subR (toRF F rk i) := by
  rw [subR_toRF h hi (Nat.le_refl _)]
  exact List.mem_map.2 ⟨z, (mem_nodesF h hi (Nat.le_refl _)).2 hs, rfl⟩
theorem good_sep (h : Wf F n rk) {i z : Nat} (hi : i < n) (hg : GoodR (toRF F rk i)) (hz : z < n) (hs : subF F rk i z = true) : ((F.kids z).map (lsF F rk)).Nodup := by
  have h1 := good_dst hg _ (rose_part h hi hs)
  rw [toRF_kids h hz, List.map_map] at h1
  have : (F.kids z).map ((fun k => firstR (sortR k)) ∘ toRF F rk) = (F.kids z).map (lsF F rk) := by
    refine List.map_congr_left fun k hk => ?_
    have hkk := h.kid z hz k hk
    exact (toRF_srt h (fun _ => true) hkk.1 (Nat.le_refl _) fun _ _ => rfl).2
  rw [this] at h1; exact h1
theorem map_sep {f : Nat → ByteArray} {l : List Nat} (h : (l.map f).Nodup) : l.Nodup ∧ Sep f l := by
  unfold List.Nodup at h
  rw [List.pairwise_map] at h
  refine ⟨h.imp fun h e => h (by rw [e]), fun x hx y hy e => ?_⟩
  obtain ⟨i, hi, rfl⟩ := List.getElem_of_mem hx
  obtain ⟨j, hj, rfl⟩ := List.getElem_of_mem hy
  have hp := List.pairwise_iff_getElem.1 h
  rcases Nat.lt_trichotomy i j with c | c | c
  · exact absurd e (hp i j hi hj c)
  · subst c; rfl
  · exact absurd e.symm (hp j i hj hi c)
theorem small_sep {f : Nat → ByteArray} {l : List Nat} (h : l.length ≤ 1) : l.Nodup ∧ Sep f l := by
  match l with
  | [] => exact ⟨List.nodup_nil, fun x hx => by cases hx⟩
  | [a] => exact ⟨by simp, fun x hx y hy _ => by simp at hx hy; rw [hx, hy]⟩
  | a :: b :: l => simp at h
theorem good_nodes (h : Wf F n rk) : ∀ (d i : Nat), rk i ≤ d → i < n → GoodR (toRF F rk i) → (nodesF F rk i).Nodup
  | d, i, hd, hi, hg => by
    rw [nodesF_eq h hi, List.nodup_cons]
    have hsub : ∀ k ∈ F.kids i, toRF F rk k ∈ subR (toRF F rk i) := fun k hk => rose_part h hi (subF_kid h hi hk (subF_self h (h.kid i hi k hk).1))
    have hgk : ∀ k ∈ F.kids i, GoodR (toRF F rk k) := fun k hk => ⟨fun s hs => hg.inn s (subR_trans _ (hsub k hk) hs), fun s hs => hg.lf s (subR_trans _ (hsub k hk) hs), (leafR_sub (hsub k hk)).nodup hg.nd⟩
    refine ⟨fun hm => ?_, ?_⟩
    · obtain ⟨k, hk, hm⟩ := List.mem_flatMap.1 hm
      have hkk := h.kid i hi k hk
      have := subD_rank h hkk.1 ((mem_nodesF h hkk.1 (Nat.le_refl _)).1 hm)
      omega
    · by_cases h0 : F.kids i = []
      · rw [h0]; simp
      · have hnd := hg.nd
        rw [toRF_eq h hi, leafR_node (by have := hg.inn _ (subR_self _); rw [toRF_nm h hi, toRF_kids h hi] at this; exact this (fun e => h0 (List.map_eq_nil_iff.1 e))), List.flatMap_map, List.nodup_iff_pairwise_ne, List.pairwise_flatMap] at hnd
        rw [List.nodup_iff_pairwise_ne, List.pairwise_flatMap]
        refine ⟨fun k hk => ?_, ?_⟩
        · have hkk := h.kid i hi k hk
          cases d with
          | zero => omega
          | succ d => exact good_nodes h d k (by omega) hkk.1 (hgk k hk)
        · refine hnd.2.imp_of_mem ?_
          intro a b ha hb hab x hx y hy e
          subst e
          have hka := h.kid i hi a ha
          have hkb := h.kid i hi b hb
          have h1 := rose_part h hka.1 ((mem_nodesF h hka.1 (Nat.le_refl _)).1 hx)
          have h2 := rose_part h hkb.1 ((mem_nodesF h hkb.1 (Nat.le_refl _)).1 hy)
          have hf := first_leaf (toRF F rk x) fun s hs => (hgk a ha).lf s (subR_trans _ h1 hs)
          exact hab _ ((leafR_sub h1).subset hf) _ ((leafR_sub h2).subset hf) rfl
end
end Go.Proofs.YtpjijbophjdgaaaGreat
