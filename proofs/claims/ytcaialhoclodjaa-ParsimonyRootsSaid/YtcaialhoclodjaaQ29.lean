/- The score of a tree under rerooting: forests, the table; plain. The contract of layer 31's reference's Leaves. The contract of parsimony.Cost. The contracts of the reference's checkCosts, checkStates, Check. -/
import Derived.Test.YtcaialhoclodjaaQ19
import Derived.Test.YtcaialhoclodjaaQ27
import Derived.Test.YtcaialhoclodjaaQ28
import Derived.Test.YtcaialhoclodjaaQ17
import Derived.Test.YtcaialhoclodjaaQ12
namespace Go.Proofs.Ytcaialhoclodjaa
section
variable {F : Frs} {n : Nat} {rk : Nat → Nat} {P : Nat → Bool} {m : Nat} {cost : Nat → Nat → Int} {lab : ByteArray → Int}
theorem rk_ind (h : Wf F n rk) {Q : Nat → Prop} (step : ∀ z, z < n → (∀ k ∈ F.kids z, Q k) → Q z) : ∀ z, z < n → Q z := by
  have key : ∀ d z, rk z ≤ d → z < n → Q z := by
    intro d
    induction d with
    | zero => intro z hd hz; exact step z hz fun k hk => by have := (h.kid z hz k hk).2; omega
    | succ d ih => intro z hd hz; exact step z hz fun k hk => by have := h.kid z hz k hk; exact ih k (by omega) this.1
  exact fun z hz => key _ z (Nat.le_refl _) hz
/-- What goes away costs nothing. -/
theorem att_dead (M : Metr m cost) (h : Wf F n rk) (hP : ∀ z, z < n → F.kids z = [] → P z = false → lab (F.nm z) < 0) : ∀ z, z < n → al F P rk z = false → ∀ s, s < m → AttR m cost lab (toRF F rk z) s 0 := by
  refine rk_ind h fun z hz IH ha s hs => ?_
  rw [toRF_eq h hz, attR_node]
  rw [al_eq h hz] at ha
  by_cases h0 : F.kids z = []
  · rw [if_pos h0] at ha
    have := hP z hz h0 ha
    refine ⟨hs, fun _ h1 => by omega, ?_⟩
    rw [h0]; exact attL_nil.2 rfl
  · rw [if_neg h0] at ha
    refine ⟨hs, fun e => absurd (List.map_eq_nil_iff.1 e) h0, ?_⟩
    have key : ∀ l : List Nat, (∀ k ∈ l, AttR m cost lab (toRF F rk k) s 0) → AttL m cost lab (l.map (toRF F rk)) s 0 := fun l => by
      induction l with
      | nil => intro _; exact attL_nil.2 rfl
      | cons k l ih => intro hk; exact attL_cons.2 ⟨s, 0, 0, hk k (by simp), ih (fun k hk' => hk k (by simp [hk'])), by have := M.z s hs; omega⟩
    refine key _ fun k hk => IH k hk ?_ s hs
    cases e : al F P rk k with
    | false => rfl
    | true => rw [List.any_eq_false] at ha; exact absurd e (ha k hk)
theorem prune_le (M : Metr m cost) (h : Wf F n rk) {i : Nat} : ∀ z, z < n → subF F rk i z = true → i < n → al F P rk z = true → ∀ s c, AttR m cost lab (toRF F rk z) s c → ∃ c', AttR m cost lab (toRF (F.sub rk (prQ F P rk) i) rk z) s c' ∧ c' ≤ c := by
  refine rk_ind h fun z hz IH hsz hi ha s c hc => ?_
  rw [toRF_eq h hz, attR_node] at hc
  rw [toRF_eq (pr_wf h i) hz, pr_kids hsz]
  obtain ⟨hs, hl, hk⟩ := hc
  have key : ∀ l : List Nat, (∀ k ∈ l, k ∈ F.kids z) → ∀ c, AttL m cost lab (l.map (toRF F rk)) s c → ∃ c', AttL m cost lab ((l.filter (al F P rk)).map (toRF (F.sub rk (prQ F P rk) i) rk)) s c' ∧ c' ≤ c := fun l => by
    induction l with
    | nil => intro _ c h; exact ⟨c, h, Int.le_refl _⟩
    | cons k l ih =>
      intro hm c hc
      obtain ⟨u, a, b, h1, h2, rfl⟩ := attL_cons.1 hc
      obtain ⟨b', h3, h4⟩ := ih (fun k hk => hm k (by simp [hk])) b h2
      have hkm := hm k (by simp)
      have hkn := (h.kid z hz k hkm).1
      by_cases e : al F P rk k = true
      · obtain ⟨a', h5, h6⟩ := IH k hkm (sub_trans h hi (Nat.le_refl _) hsz (subF_kid h hz hkm (subF_self h hkn))) hi e u a h1
        rw [List.filter_cons, if_pos e]
        exact ⟨cost s u + a' + b', attL_cons.2 ⟨u, a', b', h5, h3, rfl⟩, by omega⟩
      · rw [List.filter_cons, if_neg e]
        refine ⟨b', h3, ?_⟩
        have := M.nn s u hs (attR_lt h1)
        have := attR_nn M _ _ _ h1
        omega
  obtain ⟨c', h1, h2⟩ := key _ (fun k hk => hk) c hk
  refine ⟨c', attR_node.2 ⟨hs, fun e => ?_, h1⟩, h2⟩
  rw [List.map_eq_nil_iff] at e
  by_cases h0 : F.kids z = []
  · exact hl (by rw [h0]; rfl)
  · rw [al_eq h hz, if_neg h0] at ha
    obtain ⟨k, hk2, hka⟩ := List.any_eq_true.1 ha
    have : k ∈ (F.kids z).filter (al F P rk) := List.mem_filter.2 ⟨hk2, hka⟩
    rw [e] at this; cases this
theorem prune_ge (M : Metr m cost) (h : Wf F n rk) (hP : ∀ z, z < n → F.kids z = [] → P z = false → lab (F.nm z) < 0) {i : Nat} : ∀ z, z < n → subF F rk i z = true → i < n → ∀ s c, AttR m cost lab (toRF (F.sub rk (prQ F P rk) i) rk z) s c → AttR m cost lab (toRF F rk z) s c := by
  refine rk_ind h fun z hz IH hsz hi s c hc => ?_
  rw [toRF_eq (pr_wf h i) hz, pr_kids hsz, attR_node] at hc
  rw [toRF_eq h hz, attR_node]
  obtain ⟨hs, hl, hk⟩ := hc
  have key : ∀ l : List Nat, (∀ k ∈ l, k ∈ F.kids z) → ∀ c, AttL m cost lab ((l.filter (al F P rk)).map (toRF (F.sub rk (prQ F P rk) i) rk)) s c → AttL m cost lab (l.map (toRF F rk)) s c := fun l => by
    induction l with
    | nil => intro _ c h; exact h
    | cons k l ih =>
      intro hm c hc
      have hkm := hm k (by simp)
      have hkn := (h.kid z hz k hkm).1
      have hsk := sub_trans h hi (Nat.le_refl _) hsz (subF_kid h hz hkm (subF_self h hkn))
      by_cases e : al F P rk k = true
      · rw [List.filter_cons, if_pos e] at hc
        obtain ⟨u, a, b, h1, h2, rfl⟩ := attL_cons.1 hc
        exact attL_cons.2 ⟨u, a, b, IH k hkm hsk hi u a h1, ih (fun k hk => hm k (by simp [hk])) b h2, rfl⟩
      · rw [List.filter_cons, if_neg e] at hc
        refine attL_cons.2 ⟨s, 0, c, att_dead M h hP k hkn (by simpa using e) s hs, ih (fun k hk => hm k (by simp [hk])) c hc, ?_⟩
        have := M.z s hs
        omega
  exact ⟨hs, fun e => hl (by rw [List.map_eq_nil_iff] at e ⊢; rw [e]; rfl), key _ (fun k hk => hk) c hk⟩
end
section
variable {t : Tre} {leaf m : Nat} {cost : Nat → Nat → Int} {lab : ByteArray → Int}
theorem rr_nm {z : Nat} (hz : z < t.ps.length) : (rrF t leaf).nm z = gs t.ns z := upd_ne _ _ (by omega)
theorem rr_off (h : LeafOk t leaf) : ∀ z, z < t.ps.length → onP t leaf z = false → toRF (rrF t leaf) (rkR t leaf) z = toRF (frT t) (rkT t) z := by
  have hw := (frT_arb h.te).wf
  refine rk_ind hw fun z hz IH ho => ?_
  rw [toRF_eq hw hz, toRF_eq (rr_arb h).wf (by omega), rr_nm hz]
  have hk : (rrF t leaf).kids z = kidsL t.ps z := by
    show rrQ t leaf z = _
    unfold rrQ
    rw [if_neg (by omega), if_neg (fun e => by rw [ho] at e; exact absurd e.1 (by decide))]
  rw [hk, frT_kids]
  show RT.node (gs t.ns z) _ = RT.node (gs t.ns z) _
  congr 1
  refine List.map_congr_left fun k hk => IH k hk ?_
  cases e : onP t leaf k with
  | false => rfl
  | true =>
    obtain ⟨_, h2, h3⟩ := mem_kidsL.1 hk
    rw [h.on_par e (by omega) h3] at ho; cases ho
theorem rr_leaf_eq (h : LeafOk t leaf) : toRF (rrF t leaf) (rkR t leaf) leaf = toRF (frT t) (rkT t) leaf := by
  have := h.lt
  rw [toRF_eq (frT_arb h.te).wf h.lt, toRF_eq (rr_arb h).wf (by omega), rr_nm h.lt, rr_kids_leaf h, frT_kids, h.nokid]; rfl
theorem path_perm (h : LeafOk t leaf) {z c : Nat} (hz : z < t.ps.length) (hc : c < t.ps.length) (hzc : z < c) (hp : gi t.ps c = (z : Int)) (ho : onP t leaf c = true) : (kidsL t.ps z).Perm (c :: (kidsL t.ps z).filter (fun k => !onP t leaf k)) := by
  have hnd := (frT_arb h.te).nodup z hz
  rw [frT_kids] at hnd
  refine (List.perm_ext_iff_of_nodup hnd ?_).2 fun k => ?_
  · rw [List.nodup_cons]
    exact ⟨fun e => by { have h1 := (List.mem_filter.1 e).2; rw [ho] at h1; simp at h1 }, hnd.filter _⟩
  · rw [List.mem_cons, List.mem_filter]
    constructor
    · intro hk
      by_cases e : onP t leaf k = true
      · obtain ⟨_, h2, h3⟩ := mem_kidsL.1 hk
        exact .inl (h.on_one e ho h2 hzc h3 hp)
      · exact .inr ⟨hk, by simpa using e⟩
    · rintro (rfl | ⟨hk, _⟩)
      · exact mem_kidsL.2 ⟨hc, hzc, hp⟩
      · exact hk
theorem vat_path (M : Metr m cost) (hlab : ∀ x : ByteArray, x.size = 0 → lab x < 0) (h : LeafOk t leaf) : ∀ (d z c : Nat), z ≤ d → z < t.ps.length → c < t.ps.length → z < c → gi t.ps c = (z : Int) → onP t leaf c = true → ∀ v,
    (∃ s, AttR m cost lab (toR t) s v) ↔ VatR m cost lab (toRF (frT t) (rkT t) c) (toRF (rrF t leaf) (rkR t leaf) z) v := by
  intro d
  have hw := (frT_arb h.te).wf
  have gen : ∀ z c, z < t.ps.length → c < t.ps.length → z < c → gi t.ps c = (z : Int) → onP t leaf c = true →
      toRF (frT t) (rkT t) z = .node (gs t.ns z) ((kidsL t.ps z).map (toRF (frT t) (rkT t))) ∧
      ((kidsL t.ps z).map (toRF (frT t) (rkT t))).Perm (toRF (frT t) (rkT t) c :: ((kidsL t.ps z).filter (fun k => !onP t leaf k)).map (toRF (frT t) (rkT t))) ∧
      toRF (rrF t leaf) (rkR t leaf) z = .node (gs t.ns z) (((kidsL t.ps z).filter (fun k => !onP t leaf k)).map (toRF (frT t) (rkT t)) ++ (if z = 0 then [] else [toRF (rrF t leaf) (rkR t leaf) (gi t.ps z).toNat])) ∧ onP t leaf z = true := by
    intro z c hz hc hzc hp ho
    have hoz : onP t leaf z = true := h.on_par ho (by omega) hp
    have hne : z ≠ leaf := fun e => by
      have h1 := h.on_le ho; omega
    refine ⟨?_, ?_, ?_, hoz⟩
    · rw [toRF_eq hw hz]; rfl
    · exact (path_perm h hz hc hzc hp ho).map _
    · rw [toRF_eq (rr_arb h).wf (by omega), rr_nm hz]
      have hk : (rrF t leaf).kids z = (kidsL t.ps z).filter (fun k => !onP t leaf k) ++ (if z = 0 then [] else [(gi t.ps z).toNat]) := by
        show rrQ t leaf z = _
        unfold rrQ
        rw [if_neg (by omega), if_pos ⟨hoz, hne⟩]
      rw [hk, List.map_append]
      congr 2
      · refine List.map_congr_left fun k hk => ?_
        have hk := List.mem_filter.1 hk
        exact rr_off h k (mem_kidsL.1 hk.1).1 (by simpa using hk.2)
      · split <;> rfl
  induction d with
  | zero =>
    intro z c hd hz hc hzc hp ho v
    obtain ⟨g1, g2, g3, _⟩ := gen z c hz hc hzc hp ho
    obtain rfl : z = 0 := by omega
    rw [if_pos rfl, List.append_nil] at g3
    rw [g3]
    unfold toR
    rw [g1]
    exact vat_start M g2 (fun _ => hlab _ (inner_empty h.te hc hzc hp)) v
  | succ d ih =>
    intro z c hd hz hc hzc hp ho v
    obtain ⟨g1, g2, g3, hoz⟩ := gen z c hz hc hzc hp ho
    by_cases h0 : z = 0
    · subst h0
      rw [if_pos rfl, List.append_nil] at g3
      rw [g3]
      unfold toR
      rw [g1]
      exact vat_start M g2 (fun _ => hlab _ (inner_empty h.te hc hzc hp)) v
    · obtain ⟨q, hq, hqz⟩ := h.par hz h0
      rw [if_neg h0, hq, Int.toNat_natCast] at g3
      rw [ih q z (by omega) (by omega) hz hqz hq hoz v, g3, g1]
      exact vat_step M g2 v
theorem rr_top (h : LeafOk t leaf) : toRF (rrF t leaf) (rkR t leaf) t.ps.length = .node ByteArray.empty (toRF (frT t) (rkT t) leaf :: (if leaf = 0 then [] else [toRF (rrF t leaf) (rkR t leaf) (gi t.ps leaf).toNat])) := by
  rw [toRF_eq (rr_arb h).wf (Nat.lt_succ_self _)]
  have hk : (rrF t leaf).kids t.ps.length = leaf :: (if leaf = 0 then [] else [(gi t.ps leaf).toNat]) := by
    show rrQ t leaf t.ps.length = _
    unfold rrQ
    rw [if_pos rfl]
  have hn : (rrF t leaf).nm t.ps.length = ByteArray.empty := if_pos rfl
  rw [hk, hn, List.map_cons, rr_leaf_eq h]
  congr 2
  split <;> rfl
theorem rr_att (M : Metr m cost) (hlab : ∀ x : ByteArray, x.size = 0 → lab x < 0) (h : LeafOk t leaf) :
    (∀ s c, AttR m cost lab (toR t) s c → ∃ u c', AttR m cost lab (toRF (rrF t leaf) (rkR t leaf) t.ps.length) u c' ∧ c' ≤ c) ∧
    (∀ s c, AttR m cost lab (toRF (rrF t leaf) (rkR t leaf) t.ps.length) s c → ∃ u c', AttR m cost lab (toR t) u c' ∧ c' ≤ c) := by
  rw [rr_top h]
  by_cases h0 : leaf = 0
  · subst h0
    rw [if_pos rfl]
    constructor
    · intro s c hc
      have hs := attR_lt hc
      exact ⟨s, c, attR_node.2 ⟨hs, fun e => (by cases e), attL_cons.2 ⟨s, c, 0, hc, attL_nil.2 rfl, by have := M.z s hs; omega⟩⟩, Int.le_refl _⟩
    · intro s c hc
      rw [attR_node] at hc
      obtain ⟨u, a, b, h1, h2, rfl⟩ := attL_cons.1 hc.2.2
      rw [attL_nil] at h2; subst h2
      exact ⟨u, a, h1, by have := M.nn s u hc.1 (attR_lt h1); omega⟩
  · obtain ⟨q, hq, hql⟩ := h.par h.lt h0
    have hlt := h.lt
    rw [if_neg h0, hq, Int.toNat_natCast]
    have hv := vat_path M hlab h q q leaf (Nat.le_refl _) (by omega) h.lt hql hq h.on_self
    constructor
    · intro s c hc
      obtain ⟨u, h1⟩ := vat_end1 (nm := ByteArray.empty) M ((hv c).1 ⟨s, hc⟩)
      exact ⟨u, c, h1, Int.le_refl _⟩
    · intro s c hc
      obtain ⟨c', h1, h2⟩ := vat_end2 M hc
      obtain ⟨u, h3⟩ := (hv c').2 h1
      exact ⟨u, c', h3, h2⟩
theorem rrQ_att (M : Metr m cost) (hlab : ∀ x : ByteArray, x.size = 0 → lab x < 0) (h : LeafOk t leaf) :
    (∀ s c, AttR m cost lab (toR t) s c → ∃ u c', AttR m cost lab (rrQt t leaf) u c' ∧ c' ≤ c) ∧
    (∀ s c, AttR m cost lab (rrQt t leaf) s c → ∃ u c', AttR m cost lab (toR t) u c' ∧ c' ≤ c) := by
  have hw := (rr_arb h).wf
  have hn : t.ps.length < t.ps.length + 1 := Nat.lt_succ_self _
  have hP : ∀ z, z < t.ps.length + 1 → (rrF t leaf).kids z = [] → rrP t leaf z = false → lab ((rrF t leaf).nm z) < 0 := fun z _ _ hp => hlab _ (by
    have := of_decide_eq_false hp
    exact Classical.not_not.1 this)
  obtain ⟨a1, a2⟩ := rr_att M hlab h
  constructor
  · intro s c hc
    obtain ⟨u, c1, h1, h2⟩ := a1 s c hc
    obtain ⟨c2, h3, h4⟩ := prune_le (P := rrP t leaf) M hw _ hn (subF_self hw hn) hn (rr_facts h).1 u c1 h1
    obtain ⟨v, c3, h5, h6⟩ := contr_le M _ _ (Nat.le_refl _) u c2 h3
    refine ⟨v, c3, (att_sort _ _ _).2 h5, ?_⟩
    have hu := attR_lt h1
    have := h6 u hu
    have := M.z u hu
    have := M.nn u v hu (attR_lt h5)
    omega
  · intro s c hc
    have h1 := contr_ge M _ _ (Nat.le_refl _) s c ((att_sort _ _ _).1 hc)
    have h2 := prune_ge (P := rrP t leaf) M hw hP _ hn (subF_self hw hn) hn s c h1
    exact a2 s c h2
end
section
variable {t : Tre} {st : List Int} {cs : List (List Int)} {lab : ByteArray → Int}
/-- The table's numbers are the least costs. -/
theorem att_tab (hv : Valid t st cs) (hl : ∀ i, i < t.ps.length → kidsL t.ps i = [] → lab (gs t.ns i) = ownS t.ns st i) : ∀ z, z < t.ps.length → ∀ s, s < cs.length →
    (∀ c, AttR cs.length (costF cs) lab (toRF (frT t) (rkT t) z) s c → 0 ≤ tabT t st cs z s ∧ tabT t st cs z s ≤ c) ∧ (0 ≤ tabT t st cs z s → AttR cs.length (costF cs) lab (toRF (frT t) (rkT t) z) s (tabT t st cs z s)) := by
  have hw := (frT_arb hv.tree).wf
  obtain ⟨_, _, _, m4, _⟩ := matErr_zero hv.mat
  have hcost : ∀ s, ∀ j, j < cs.length → 0 ≤ costF cs s j ∧ costF cs s j ≤ 1000 := fun s j _ => m4 s j
  have hadd : ∀ s k, addK t st cs s k = (bestK (costF cs s) (gi (tabRow t st cs k)) cs.length).1 := fun s k => by unfold addK; rw [tabRow_len]; rfl
  refine rk_ind hw fun z hz IH s hs => ?_
  rw [frT_kids] at IH
  rw [toRF_eq hw hz, tabT_eq t st cs hz s, frT_kids]
  show (∀ c, AttR cs.length (costF cs) lab (.node (gs t.ns z) _) s c → _) ∧ (_ → AttR cs.length (costF cs) lab (.node (gs t.ns z) _) s _)
  simp only [attR_node]
  have key1 : ∀ l : List Nat, (∀ k ∈ l, k ∈ kidsL t.ps z) → ∀ c, AttL cs.length (costF cs) lab (l.map (toRF (frT t) (rkT t))) s c → (l.map (addK t st cs s)).sum ≤ c := fun l => by
    induction l with
    | nil => intro _ c h; rw [List.map_nil, attL_nil] at h; subst h; simp
    | cons k l ih =>
      intro hm c hc
      obtain ⟨u, a, b, h1, h2, rfl⟩ := attL_cons.1 hc
      have hkm := hm k (by simp)
      have h3 := ih (fun k hk => hm k (by simp [hk])) b h2
      obtain ⟨h4, h5⟩ := (IH k hkm u (attR_lt h1)).1 a h1
      obtain ⟨o, _, _, _, _, h6, _⟩ := best_ok hv (hcost s) (mem_kidsL.1 hkm).1
      have h7 := h6 u (attR_lt h1) (by rw [gi_tabRow t st cs k (attR_lt h1)]; exact h4)
      rw [gi_tabRow t st cs k (attR_lt h1), ← hadd] at h7
      rw [List.map_cons, List.sum_cons]
      omega
  have key2 : ∀ l : List Nat, (∀ k ∈ l, k ∈ kidsL t.ps z) → AttL cs.length (costF cs) lab (l.map (toRF (frT t) (rkT t))) s ((l.map (addK t st cs s)).sum) ∧ 0 ≤ (l.map (addK t st cs s)).sum := fun l => by
    induction l with
    | nil => intro _; exact ⟨attL_nil.2 rfl, by simp⟩
    | cons k l ih =>
      intro hm
      have hkm := hm k (by simp)
      obtain ⟨h2, h3⟩ := ih fun k hk => hm k (by simp [hk])
      obtain ⟨o, _, h4, h5, h6, _, _⟩ := best_ok hv (hcost s) (mem_kidsL.1 hkm).1
      rw [gi_tabRow t st cs k h4] at h5 h6
      rw [← hadd] at h6
      rw [List.map_cons, List.map_cons, List.sum_cons]
      have := (hcost s o h4).1
      exact ⟨attL_cons.2 ⟨o, tabT t st cs k o, _, (IH k hkm o h4).2 h5, h2, by omega⟩, by omega⟩
  obtain ⟨k2, k3⟩ := key2 _ fun k hk => hk
  have k1 := key1 _ fun k hk => hk
  by_cases h0 : kidsL t.ps z = []
  · rw [h0] at k1 k2 k3 ⊢
    have hlz := hl z hz h0
    rw [hlz]
    unfold baseT
    simp only [List.map_nil, List.sum_nil, attL_nil] at *
    constructor
    · rintro c ⟨_, h1, h2⟩
      have h1 := h1 trivial
      rw [if_neg (fun e => e.2 (h1 e.1))]; omega
    · intro h1
      refine ⟨hs, fun _ h2 => ?_, ?_⟩
      · by_cases e : ownS t.ns st z = (s : Int)
        · exact e
        · rw [if_pos ⟨h2, e⟩] at h1; omega
      · split at h1
        · omega
        · rw [if_neg (by assumption)]; rfl
  · have hown : ownS t.ns st z = -1 := by
      obtain ⟨c, hc⟩ := List.exists_mem_of_ne_nil _ h0
      obtain ⟨c1, c2, c3⟩ := mem_kidsL.1 hc
      exact hv.fine.leaf z c c1 c2 c3
    have hb : baseT t st z s = 0 := by unfold baseT; rw [if_neg (by omega)]
    rw [hb, Int.zero_add]
    exact ⟨fun c ⟨_, _, h3⟩ => ⟨k3, k1 c h3⟩, fun _ => ⟨hs, fun e => absurd (List.map_eq_nil_iff.1 e) h0, k2⟩⟩
theorem score_min (hv : Valid t st cs) (hl : ∀ i, i < t.ps.length → kidsL t.ps i = [] → lab (gs t.ns i) = ownS t.ns st i) :
    (∃ s, AttR cs.length (costF cs) lab (toR t) s (scoreN t st cs)) ∧ ∀ s c, AttR cs.length (costF cs) lab (toR t) s c → scoreN t st cs ≤ c := by
  have hp := (treeErr_zero hv.tree).1
  have hsc : scoreN t st cs = (bestK (fun _ => 0) (gi (tabRow t st cs 0)) cs.length).1 := by unfold scoreN; rw [if_pos hv.par]
  obtain ⟨o, _, h4, h5, h6, h7, _⟩ := best_ok hv (c := fun _ => 0) (fun j _ => ⟨Int.le_refl _, by omega⟩) hp
  rw [← hsc] at h6 h7
  rw [gi_tabRow t st cs 0 h4] at h5 h6
  constructor
  · refine ⟨o, ?_⟩
    rw [h6, Int.zero_add]
    exact (att_tab hv hl 0 hp o h4).2 h5
  · intro s c hc
    have hs := attR_lt hc
    obtain ⟨a1, a2⟩ := (att_tab hv hl 0 hp s hs).1 c hc
    have := h7 s hs (by rw [gi_tabRow t st cs 0 hs]; exact a1)
    rw [gi_tabRow t st cs 0 hs] at this
    omega
/-- The state of a name. -/
def labT (t : Tre) (st : List Int) (x : ByteArray) : Int := if x.size = 0 then -1 else if 0 ≤ fdN t.ns x then ownS t.ns st (fdN t.ns x).toNat else -1
theorem labT_leaf (st : List Int) {i : Nat} (h : LeafOk t i) : labT t st (gs t.ns i) = ownS t.ns st i := by
  unfold labT
  rw [if_neg h.nm, fd_at h.te h, if_pos (by omega), Int.toNat_natCast]
theorem leafOk_of (he : treeErr t = 0) {i : Nat} (hi : i < t.ps.length) (hk : kidsL t.ps i = []) : LeafOk t i := ⟨he, hi, named_size (tleaf_named he hi hk)⟩
/-- The place of a node's name among the leaves of t. -/
def mvIx (t u : Tre) (k : Nat) : Int := firstIx (fun j => decide (gs t.ns (gi (leavesL t.ns) j).toNat = gs u.ns k)) (leavesL t.ns).length
def mvK (t u : Tre) (st : List Int) (n : Nat) : List Int := (List.range n).map fun i => gi st (mvIx t u (gi (leavesL u.ns) i).toNat).toNat
def mvL (t u : Tre) (st : List Int) : List Int := mvK t u st (leavesL u.ns).length
theorem mvK_succ (t u : Tre) (st : List Int) (n : Nat) : mvK t u st (n + 1) = mvK t u st n ++ [gi st (mvIx t u (gi (leavesL u.ns) n).toNat).toNat] := by
  unfold mvK; rw [List.range_succ, List.map_append]; rfl
theorem mvK_len (t u : Tre) (st : List Int) (n : Nat) : (mvK t u st n).length = n := by unfold mvK; simp
theorem firstIx_congr {p q : Nat → Bool} : ∀ {n : Nat}, (∀ j, j < n → p j = q j) → firstIx p n = firstIx q n
  | 0, _ => rfl
  | n + 1, h => by rw [firstIx_succ, firstIx_succ, firstIx_congr fun j hj => h j (by omega), h n (by omega)]
end
section
variable {t : Tre} {st : List Int} {cs : List (List Int)} {leaf : Nat}
theorem leafIx_some {ns : List ByteArray} {j : Nat} (hj : j < ns.length) (h0 : (gs ns j).size ≠ 0) : 0 ≤ leafIx ns j := by
  have hm : (j : Int) ∈ leavesL ns := mem_leavesL.2 ⟨j, rfl, hj, h0⟩
  obtain ⟨i, hi, e⟩ := mem_gi hm
  unfold leafIx
  have := firstIx_any (fun i => decide ((j : Int) = gi (leavesL ns) i)) (leavesL ns).length
  rw [any_at hi (decide_eq_true e.symm)] at this
  exact of_decide_eq_true this
/-- Where the name of a leaf of the rerooted tree stands. -/
theorem mv_at (he : treeErr t = 0) {u : Tre} (hu : treeErr u = 0) (hp : (fltN u.ns).Perm (fltN t.ns)) {i : Nat} (hi : LeafOk u i) : ∃ k, LeafOk t k ∧ gs t.ns k = gs u.ns i ∧ mvIx t u i = leafIx t.ns k ∧ 0 ≤ mvIx t u i := by
  obtain ⟨_, _, hlu, _, _⟩ := treeErr_zero hu
  obtain ⟨_, _, hlt, _, _⟩ := treeErr_zero he
  have hm : gs u.ns i ∈ fltN t.ns := hp.mem_iff.1 (mem_flt.2 ⟨i, by rw [hlu]; exact hi.lt, rfl, hi.nm⟩)
  obtain ⟨k, _, hk, e⟩ := fd_ok he hm
  have h1 : mvIx t u i = leafIx t.ns k := by
    unfold mvIx leafIx
    refine firstIx_congr fun j hj => ?_
    obtain ⟨l, e1, e2, e3⟩ := mem_leavesL.1 (gi_mem hj)
    rw [e1, Int.toNat_natCast]
    refine decide_eq_decide.2 ⟨fun h => ?_, fun h => ?_⟩
    · have : l = k := (show LeafOk t l from ⟨he, by omega, e3⟩).inj (by omega) hk.lt e3 (by rw [h, e])
      omega
    · obtain rfl : k = l := by omega
      exact e
  exact ⟨k, hk, e, h1, by rw [h1]; exact leafIx_some (by rw [hlt]; exact hk.lt) hk.nm⟩
theorem mv_own (he : treeErr t = 0) {u : Tre} (hu : treeErr u = 0) (hp : (fltN u.ns).Perm (fltN t.ns)) {i : Nat} (hi : LeafOk u i) : ownS u.ns (mvL t u st) i = labT t st (gs u.ns i) := by
  obtain ⟨_, _, hlu, _, _⟩ := treeErr_zero hu
  obtain ⟨k, hk, e, h1, h2⟩ := mv_at he hu hp hi
  rw [← e, labT_leaf st hk]
  have h3 := leafIx_some (ns := u.ns) (j := i) (by rw [hlu]; exact hi.lt) hi.nm
  obtain ⟨h4, h5⟩ := leafIx_lt h3
  unfold ownS
  rw [if_pos h3, ← h1, if_pos h2]
  unfold mvL
  have : gi (mvK t u st (leavesL u.ns).length) (leafIx u.ns i).toNat = gi st (mvIx t u (gi (leavesL u.ns) (leafIx u.ns i).toNat).toNat).toNat := by
    unfold mvK; simp [gi, h4]
  rw [this, h5, Int.toNat_natCast]
theorem rr_score (hv : Valid t st cs) (M : Metr cs.length (costF cs)) (h : LeafOk t leaf) (h63 : t.ps.length ≤ 63) {u : Tre} (hu : u = flat (rrQt t leaf)) :
    Valid u (mvL t u st) cs ∧ scoreN u (mvL t u st) cs = scoreN t st cs := by
  have hue : treeErr u = 0 := by rw [hu]; exact (rr_ok_t h h63).1
  have hp : (fltN u.ns).Perm (fltN t.ns) := by rw [hu]; exact rrx_names h
  have hlen : (leavesL u.ns).length = (leavesL t.ns).length := by
    rw [lvs_count, lvs_count]; exact hp.length_eq
  have hvu : Valid u (mvL t u st) cs := by
    refine ⟨hue, hv.mat, mvK_len _ _ _ _, any_none fun j hj => ?_⟩
    have hj : j < (leavesL u.ns).length := by rw [← mvK_len t u st (leavesL u.ns).length]; exact hj
    obtain ⟨l, e1, e2, e3⟩ := mem_leavesL.1 (gi_mem hj)
    obtain ⟨_, _, hlu, _, _⟩ := treeErr_zero hue
    obtain ⟨k, hk, e, h1, h2⟩ := mv_at hv.tree hue hp (i := l) ⟨hue, by omega, e3⟩
    have : gi (mvL t u st) j = gi st (mvIx t u l).toNat := by
      have : gi (mvK t u st (leavesL u.ns).length) j = gi st (mvIx t u (gi (leavesL u.ns) j).toNat).toNat := by
        unfold mvK; simp [gi, hj]
      unfold mvL; rw [this, e1, Int.toNat_natCast]
    rw [this, h1]
    rw [h1] at h2
    exact any_false hv.good (by rw [hv.len]; exact (leafIx_lt h2).1)
  refine ⟨hvu, ?_⟩
  have l1 : ∀ i, i < t.ps.length → kidsL t.ps i = [] → labT t st (gs t.ns i) = ownS t.ns st i := fun i hi hk => labT_leaf st (leafOk_of hv.tree hi hk)
  have l2 : ∀ i, i < u.ps.length → kidsL u.ps i = [] → labT t st (gs u.ns i) = ownS u.ns (mvL t u st) i := fun i hi hk => (mv_own hv.tree hue hp (leafOk_of hue hi hk)).symm
  have hlab : ∀ x : ByteArray, x.size = 0 → labT t st x < 0 := fun x hx => by unfold labT; rw [if_pos hx]; omega
  obtain ⟨⟨s1, a1⟩, b1⟩ := score_min hv l1
  obtain ⟨⟨s2, a2⟩, b2⟩ := score_min hvu l2
  obtain ⟨q1, q2⟩ := rrQ_att M hlab h
  have hq : toR u = rrQt t leaf := by rw [hu, toR_flat]
  rw [hq] at a2 b2
  obtain ⟨u1, c1, d1, e1⟩ := q1 s1 _ a1
  obtain ⟨u2, c2, d2, e2⟩ := q2 s2 _ a2
  have := b2 u1 c1 d1
  have := b1 u2 c2 d2
  omega
end
end Go.Proofs.Ytcaialhoclodjaa
namespace Go.Proofs.Ytcaialhoclodjaa
open Go.RowKit Go.Deep
set_option maxRecDepth 100000 in
set_option maxHeartbeats 800000 in
theorem leavesR_t (S : Nat → Prop) (w : World) (v : Value) (t : Tre) (h : TreeAt S w v t) (hp : t.ps.length ≤ 1000000) (hn : t.ns.length ≤ 1000000) (hz : ∀ k, (gs t.ns k).size ≤ 70000) :
    Calls Try.prog 88 #[v] w (LvPost w t) := by
  obtain ⟨P, N, rfl, hP, hN⟩ := h
  have ht0 : TreeAt S (w.alloc (.cells #[P, N] 25)) (.agg #[P, N]) t := TreeAt.keep ⟨P, N, rfl, hP, hN⟩ (Kept.below ((Below.refl _ w).alloc (Nat.le_refl _) _))
  have hb0 : Below w.heap.size w (w.alloc (.cells #[P, N] 25)) := (Below.refl _ _).alloc (Nat.le_refl _) _
  have hcq : (w.alloc (.cells #[P, N] 25)).cell? ⟨w.heap.size, 1, none⟩ = some N := by simp [World.cell?_alloc_new]
  have hck := checkR_t S (w.alloc (.cells #[P, N] 25)) _ t ht0 hp hn hz
  rw [World.size_alloc] at hck
  have HCK := Lib.hid hck
  have HCQ := Lib.hid hcq
  have HB0 := Lib.hid hb0
  have HN := Lib.hid hN
  clear hck hcq hb0 ht0 hP hN
  by_cases he : treeErr t = 0
  · go_enter Try.func88, Try.ntmps88
    go_wp2_with fail
    refine HCK.out.mono ?_
    rintro e w1 ⟨rfl, hb1⟩
    have hbw : Below w.heap.size w w1 := HB0.out.trans (hb1.mono (by omega))
    have hN1 := HN.out.keep (Kept.below hbw)
    have hcq : w1.cell? ⟨w.heap.size, 1, none⟩ = some N := (hb1.cell (p := ⟨w.heap.size, 1, none⟩) (by simp)).trans HCQ.out
    obtain ⟨q, cap2, rfl, hcap2, HNN⟩ := SlAt.open hN1
    have hHN := Lib.hid HNN
    have hwz : w.heap.size ≤ w1.heap.size := hbw.size
    have HE := Lib.hid he
    rw [he]
    have HCQW := Lib.hid hcq
    clear HNN hN1 HCK HCQ HB0 HN hb1 he
    go_wp2_with fail
    go_loopw [4, 5] (fun v i wr => ∃ k : Nat, k ≤ t.ns.length ∧ i = .int .i64 k ∧ Owns w1.heap.size 3 wr v ((leavesK t.ns k).map (Value.int .i64)) ∧ Below w1.heap.size w1 wr) (fun _ i _ => t.ns.length - (intOf i).toNat)
    case atStart => exact ⟨0, Nat.zero_le _, rfl, Owns.nil _ _ _, Below.refl _ _⟩
    case round =>
      obtain ⟨k, hk, rfl, hown, hbr⟩ := hrel
      by_cases hlt : k < t.ns.length
      · obtain ⟨b, off, rfl, hc0⟩ := hHN.out k hlt
        have hc : wr.cell? ⟨b, off + k, none⟩ = some (.string (gs t.ns k)) := by
          rw [hbr.cell (p := ⟨b, off + k, none⟩) (World.block_lt_of_cell? _ _ hc0)]; exact hc0
        have hsz := hbr.size
        have hcqr : wr.cell? ⟨w.heap.size, 1, none⟩ = some (.slice (some ⟨b, off, none⟩) t.ns.length cap2) := (hbr.cell (p := ⟨w.heap.size, 1, none⟩) (World.block_lt_of_cell? _ _ HCQW.out)).trans HCQW.out
        have hsucc := leavesK_succ t.ns k
        have hll := leavesK_len t.ns k
        have hnil := toList_nil (gs t.ns k)
        have HNIL := Lib.hid hnil
        have HSU := Lib.hid hsucc
        have HLL : Hid (((leavesK t.ns k).map (Value.int .i64)).length ≤ 1000000) := by unfold Hid; rw [List.length_map]; omega
        clear hc0 hnil hsucc hll hHN hz hcq
        generalize hgk : gs t.ns k = g at *
        clear hgk
        by_cases hg0 : g.size = 0
        · have hg1 : g.toList = [] := HNIL.out.2 hg0
          have HG0 := Lib.hid hg0
          clear hg0
          go_wp2
          go_roundw
          case rel => exact ⟨k + 1, by omega, by go_num, by rw [HSU.out, if_pos HG0.out, List.append_nil]; exact hown, hbr⟩
          case measure => simp [intOf]; omega
        · have hg1 : (g.toList == []) = false := by
            rw [Bool.eq_false_iff]; intro e; exact hg0 (HNIL.out.1 (by simpa using e))
          have hg2 : (g.toList != []) = true := by
            rw [bne_iff_ne]; intro e; exact hg0 (HNIL.out.1 (by simpa using e))
          have HG0 := Lib.hid hg0
          clear hg0
          go_wp2_with (at_builtin; refine wpList_app1 wr rfl _ _ 22 rfl w1.heap.size 3 _ 8 Try.underlying22 Try.infoI rfl (by decide) hown rfl _ rfl rfl HLL.out hsz ?_; intro g cap w2 hown1 hg1 hb1)
          go_roundw
          case rel => exact ⟨k + 1, by omega, by go_num, by rw [HSU.out, if_neg HG0.out, List.map_append]; rw [List.length_map] at hown1; exact hown1, hbr.trans hb1⟩
          case measure => simp [intOf]; omega
      · obtain rfl : k = t.ns.length := by omega
        have hcqr : wr.cell? ⟨w.heap.size, 1, none⟩ = some (.slice q t.ns.length cap2) := (hbr.cell (p := ⟨w.heap.size, 1, none⟩) (World.block_lt_of_cell? _ _ HCQW.out)).trans HCQW.out
        clear hlt hk hHN
        go_wp2
        go_ret2
        exact ⟨hbw.trans (hbr.mono hwz), .inr ⟨HE.out, _, rfl, hown.ints.sub fun b hb _ => Nat.le_trans hwz hb⟩⟩
  · have he' : (treeErr t != 0) = true := by simpa using he
    have HE := Lib.hid he
    clear he
    go_enter Try.func88, Try.ntmps88
    go_wp2_with fail
    refine HCK.out.mono ?_
    rintro e w1 ⟨rfl, hb1⟩
    go_wp2_with fail
    go_ret2
    exact ⟨HB0.out.trans (hb1.mono (by omega)), .inl ⟨HE.out, rfl⟩⟩
end Go.Proofs.Ytcaialhoclodjaa
namespace Go.Proofs.Ytcaialhoclodjaa
open Go.RowKit Go.Deep
end Go.Proofs.Ytcaialhoclodjaa
namespace Go.Proofs.Ytcaialhoclodjaa
open Go.RowKit Go.Deep
def costsErr (t : Tre) (cs : List (List Int)) : Int := if treeErr t ≠ 0 then 1 else matErr cs
set_option maxRecDepth 100000 in
set_option maxHeartbeats 1000000 in
theorem costsR_t (S : Nat → Prop) (w : World) (v vc : Value) (t : Tre) (cs : List (List Int)) (hT : TreeAt S w v t) (hC : RowsAt S w vc cs)
    (hp : t.ps.length ≤ 1000000) (hn : t.ns.length ≤ 1000000) (hz : ∀ k, (gs t.ns k).size ≤ 70000) (hcn : cs.length ≤ 1000000) (hr : ∀ k, (gl cs k).length ≤ 1000000) :
    Calls Try.prog 63 #[v, vc] w fun e w' => StI e w' w (costsErr t cs) := by
  have hfin : costsErr t cs = if treeErr t ≠ 0 then 1 else matErr cs := rfl
  have HF := Lib.hid hfin
  have hfm : matErr cs = if cs.length = 0 then 5 else if 16 < cs.length then 4 else if lenBad cs then 9 else if matBadK cs cs.length then 2 else 0 := rfl
  have HFM := Lib.hid hfm
  obtain ⟨P, N, rfl, hP, hN⟩ := hT
  obtain ⟨qC, capC, rfl, hcapC, _⟩ := rows_open hC
  have hu := Up.alloc w (.cells #[P, N] 25)
  have hT1 : TreeAt S (w.alloc (.cells #[P, N] 25)) (.agg #[P, N]) t := TreeAt.keep ⟨_, N, rfl, hP, hN⟩ (hu.kept S)
  have hk := checkR_t S _ _ t hT1 hp hn hz
  have HK := Lib.hid hk
  have HU := Lib.hid hu
  have HC := Lib.hid (hC.keep (hu.kept S))
  have HR := Lib.hid hr
  clear hk hu hT1 hC hP hN hfin hfm hz hr
  go_enter Try.func63, Try.ntmps63
  go_wp2_with fail
  generalize w.alloc (.cells #[P, N] 25) = w1 at *
  refine HK.out.mono ?_
  rintro e w2 ⟨rfl, hb⟩
  have HU2 := Lib.hid (HU.out.trans (show Up w1 w2 from hb))
  have HC2 := Lib.hid (HC.out.keep (Up.kept (show Up w1 w2 from hb) S))
  clear hb HK HU HC
  by_cases he : treeErr t = 0
  · have he1 : (treeErr t != 0) = false := by simpa using he
    have HE : Hid (costsErr t cs = matErr cs) := by unfold Hid; rw [HF.out, if_neg (fun h => h he)]
    clear he HF
    by_cases h0 : cs.length = 0
    · have h01 : ((cs.length : Int) == 0) = true := by simp [h0]
      have H0 := Lib.hid h0
      clear h0
      go_wp2_with fail
      go_ret
      exact ⟨ret_int (by rw [HE.out, HFM.out, if_pos H0.out]), HU2.out⟩
    have h01 : ((cs.length : Int) == 0) = false := by simpa using h0
    have hpos : 0 < cs.length := by omega
    have H0 := Lib.hid h0
    clear h0
    by_cases h1 : 16 < cs.length
    · go_wp2_with fail
      go_ret
      exact ⟨ret_int (by rw [HE.out, HFM.out, if_neg H0.out, if_pos h1]), HU2.out⟩
    go_wp2_with fail
    go_loop [5] (fun i => ∃ k : Nat, k ≤ cs.length ∧ i = .int .i64 k ∧ Hid (∀ j, j < k → (gl cs j).length = cs.length)) (fun i => cs.length - (intOf i).toNat)
    case atStart => exact ⟨0, Nat.zero_le _, rfl, fun j hj => absurd hj (Nat.not_lt_zero _)⟩
    case round =>
      obtain ⟨k, hk, rfl, hd⟩ := hrel
      by_cases hlt : k < cs.length
      · obtain ⟨b, off, q, c, rfl, hc, _⟩ := rows_get HC2.out hlt
        have hrk := HR.out k
        by_cases hl : (gl cs k).length = cs.length
        · have hl1 : (((gl cs k).length : Int) != cs.length) = false := by simp [hl]
          have HL := Lib.hid hl
          clear hl
          go_wp2_with fail
          go_round
          case rel => exact ⟨k + 1, by omega, by go_num, fun j hj => if e : j = k then by subst e; exact HL.out else hd.out j (by omega)⟩
          case measure => simp [intOf]; omega
        · have hl1 : (((gl cs k).length : Int) != cs.length) = true := by simp; omega
          have HL := Lib.hid hl
          clear hl
          go_wp2_with fail
          go_ret
          refine ⟨ret_int ?_, HU2.out⟩
          have hlb : lenBad cs = true := any_at hlt (by simpa using HL.out)
          rw [HE.out, HFM.out, if_neg H0.out, if_neg h1, if_pos hlb]
      · obtain rfl : k = cs.length := by omega
        clear hlt hk
        have hlb : lenBad cs = false := any_none fun j hj => by simpa using hd.out j hj
        have HLB := Lib.hid hlb
        clear hlb
        go_wp2_with fail
        go_loop [6, 7] (fun i _ => ∃ k : Nat, k ≤ cs.length ∧ i = .int .i64 k ∧ Hid (∀ j, j < k → rowBad j (gl cs j) (gl cs j).length = false)) (fun i _ => cs.length - (intOf i).toNat)
        case atStart => exact ⟨0, Nat.zero_le _, rfl, fun j hj => absurd hj (Nat.not_lt_zero _)⟩
        case round =>
          obtain ⟨k, hk, rfl, hd3⟩ := hrel
          by_cases hlt : k < cs.length
          · obtain ⟨b, off, q, c, rfl, hc, hri⟩ := rows_get HC2.out hlt
            have hlen : (gl cs k).length = cs.length := hd.out k hlt
            rw [hlen] at hc hri
            have HRI := Lib.hid hri
            have HLEN := Lib.hid hlen
            have HRB : Hid (matBadK cs cs.length = true → matErr cs = 2) := fun h => by rw [HFM.out, if_neg H0.out, if_neg h1, HLB.out, if_neg (by simp), if_pos h]
            have HMB : Hid (∀ j, j < cs.length → badc k j (gi (gl cs k) j) = true → matErr cs = 2) := fun j hj hb => HRB.out (any_at hlt (any_at (by rw [HLEN.out]; exact hj) hb))
            have HRZ : Hid ((∀ j, j < cs.length → badc k j (gi (gl cs k) j) = false) → rowBad k (gl cs k) (gl cs k).length = false) := fun h => any_none fun j hj => h j (by rw [HLEN.out] at hj; exact hj)
            clear hri hlen HRB
            go_wp2_with fail
            go_loop [7] (fun i => ∃ m : Nat, m ≤ cs.length ∧ i = .int .i64 m ∧ Hid (∀ j, j < m → badc k j (gi (gl cs k) j) = false)) (fun i => cs.length - (intOf i).toNat)
            case atStart => exact ⟨0, Nat.zero_le _, rfl, fun j hj => absurd hj (Nat.not_lt_zero _)⟩
            case round =>
              obtain ⟨m, hm, rfl, hd2⟩ := hrel
              by_cases hmt : m < cs.length
              · obtain ⟨rb, roff, rfl, hcr⟩ := ints_get HRI.out (k := m) (by rw [HLEN.out]; exact hmt)
                generalize hx : gi (gl cs k) m = x at *
                have HX := Lib.hid hx
                clear hx
                by_cases hb1 : x < 0 ∨ 1000 < x
                · have HBD := Lib.hid (HMB.out m hmt (by rw [HX.out]; unfold badc; rcases hb1 with h | h <;> simp [h]))
                  rcases hb1 with hb1 | hb1
                  · go_wp2_with fail
                    go_ret
                    exact ⟨ret_int (by rw [HE.out, HBD.out]), HU2.out⟩
                  · go_wp2_with fail
                    go_ret
                    exact ⟨ret_int (by rw [HE.out, HBD.out]), HU2.out⟩
                · have hb2 : 0 ≤ x ∧ x ≤ 1000 := by omega
                  obtain ⟨hb3, hb4⟩ := hb2
                  clear hb1
                  by_cases hkm : k = m ∧ x ≠ 0
                  · obtain ⟨rfl, hx0⟩ := hkm
                    have HBD := Lib.hid (HMB.out k hmt (by rw [HX.out]; unfold badc; simp [hx0]))
                    have hx1 : (x != 0) = true := by simpa using hx0
                    clear hx0
                    go_wp2_with fail
                    go_ret
                    exact ⟨ret_int (by rw [HE.out, HBD.out]), HU2.out⟩
                  · have hgood : badc k m x = false := by
                      unfold badc
                      have e1 : decide (x < 0) = false := by simp; omega
                      have e2 : decide (1000 < x) = false := by simp; omega
                      have e3 : (decide (k = m) && decide (x ≠ 0)) = false := by
                        rw [Bool.eq_false_iff]; intro e; apply hkm; simpa using e
                      rw [e1, e2, e3]; rfl
                    have HG := Lib.hid hgood
                    clear hgood
                    by_cases hkm2 : k = m
                    · have hx0 : x = 0 := by
                        by_cases e : x = 0
                        · exact e
                        · exact absurd ⟨hkm2, e⟩ hkm
                      subst hx0
                      clear hkm
                      subst hkm2
                      go_wp2_with fail
                      go_round
                      case rel => exact ⟨k + 1, by omega, by go_num, fun j hj => if e : j = k then by subst e; rw [HX.out]; exact HG.out else hd2.out j (by omega)⟩
                      case measure => simp [intOf]; omega
                    · have hne : ((k : Int) == (m : Int)) = false := by rw [beq_eq_false_iff_ne]; omega
                      clear hkm hkm2
                      go_wp2_with fail
                      go_round
                      case rel => exact ⟨m + 1, by omega, by go_num, fun j hj => if e : j = m then by subst e; rw [HX.out]; exact HG.out else hd2.out j (by omega)⟩
                      case measure => simp [intOf]; omega
              · have hall := HRZ.out fun j hj => hd2.out j (by omega)
                have HALL := Lib.hid hall
                clear hall
                go_wp2_with fail
                go_round
                case rel => exact ⟨k + 1, by omega, by go_num, fun j hj => if e : j = k then by subst e; exact HALL.out else hd3.out j (by omega)⟩
                case measure => simp [intOf]; omega
          · have hmb0 : matBadK cs cs.length = false := any_none fun j hj => hd3.out j (by omega)
            have HMB0 := Lib.hid hmb0
            clear hmb0
            go_wp2_with fail
            go_ret
            exact ⟨ret_int (by rw [HE.out, HFM.out, if_neg H0.out, if_neg h1, HLB.out, if_neg (by simp), HMB0.out]; simp), HU2.out⟩
  · have he1 : (treeErr t != 0) = true := by simpa using he
    have HE := Lib.hid he
    clear he
    go_wp2_with fail
    go_ret
    exact ⟨ret_int (by rw [HF.out, if_pos HE.out]), HU2.out⟩
end Go.Proofs.Ytcaialhoclodjaa
