/- Valid trees and their texts, plain: what the statements on texts, equal trees and canonical trees say. The parts of the rerooted tree, plain: which sets of leaves they have. The contract of layer 31's reference's SameTree, at trees that are the same. The example of the chapter: three, awake. The example of chapter 35: awake. The plain law of SharederrorSupport: the supports of the different sets. The walk of SharederrorSupport. The walk of SharederrorLeaves. The walk of SharederrorNested. -/
import Derived.Test.YtcaialhoclodjaaQ23
import Derived.Test.YtcaialhoclodjaaQ22
import Derived.Test.YtcaialhoclodjaaQ20
import Derived.Test.YtcaialhoclodjaaQ17
import Derived.Test.YtcaialhoclodjaaQ7
import Derived.Test.YtcaialhoclodjaaQ9
import Derived.Test.YtcaialhoclodjaaQ14
namespace Go.Proofs.Ytcaialhoclodjaa
theorem aln_sp {c : UInt8} (h : aln c = true) : c ∉ sp4 := fun hm => by
  simp only [sp4, List.mem_cons, List.not_mem_nil, or_false] at hm
  rcases hm with rfl | rfl | rfl | rfl <;> exact absurd h (by decide)
theorem named_sp {s : ByteArray} (h : namedB s.data.toList = true) : s.data.toList ≠ [] ∧ ∀ c ∈ s.data.toList, c ∉ sp4 := by
  generalize s.data.toList = l at h ⊢
  unfold namedB at h
  have key : ∀ l : List UInt8, isNameB l = true → l ≠ [] ∧ ∀ c ∈ l, c ∉ sp4 := fun l h => by
    unfold isNameB at h
    simp only [Bool.and_eq_true, decide_eq_true_eq, List.all_eq_true] at h
    exact ⟨fun e => by rw [e] at h; simp at h, fun c hc => aln_sp (h.2 c hc)⟩
  by_cases e : l.getLast? = some 42
  · rw [if_pos e] at h
    simp only [Bool.and_eq_true] at h
    obtain ⟨h1, h2⟩ := key _ h.1
    have hl : l ≠ [] := fun e2 => by subst e2; cases e
    refine ⟨hl, fun c hc => ?_⟩
    rw [← List.dropLast_concat_getLast hl, List.mem_append, List.mem_singleton] at hc
    rcases hc with hc | hc
    · exact h2 c hc
    · rw [List.getLast?_eq_some_getLast hl] at e
      have e := Option.some.inj e
      rw [hc, e]; decide
  · rw [if_neg e] at h; exact key l h
theorem GoodR.okp {r : RT} (h : GoodR r) : OkP r := fun s hs => ⟨h.inn s hs, fun hk => named_sp (h.lf s hs hk)⟩
section
variable {t : Tre}
theorem hit_all0 (h : treeErr t = 0) : ∀ (d j : Nat), j ≤ d → j < t.ps.length → hitB t.ps 0 j = true
  | d, j, hd, hj => by
    by_cases h0 : j = 0
    · subst h0; exact hit_self 0
    · obtain ⟨_, _, _, hok, _⟩ := treeErr_zero h
      have hp := pOkB_par hok hj (by omega)
      rw [hit_step hok hj (by omega)]
      cases d with
      | zero => omega
      | succ d => exact hit_all0 h d _ (by omega) (by omega)
theorem nodes_perm (h : treeErr t = 0) : (nodesF (frT t) (rkT t) 0).Perm (List.range t.ps.length) := by
  have h0 := (treeErr_zero h).1
  refine (List.perm_ext_iff_of_nodup (nodesF_nodup (frT_arb h) (fun i _ => rkT_le t i) h0 (Nat.le_refl _)) List.nodup_range).2 fun j => ?_
  rw [List.mem_range]
  constructor
  · exact mem_nodes_lt h
  · intro hj
    refine (mem_nodesF (frT_arb h).wf h0 (Nat.le_refl _)).2 ?_
    rw [sub_hit h _ 0 j (Nat.le_refl _) h0 hj]
    exact hit_all0 h j j (Nat.le_refl _) hj
theorem ns_perm (h : treeErr t = 0) : (nsR (toR t)).Perm t.ns := by
  rw [nsR_toR h]
  have hl := (treeErr_zero h).2.2.1
  have h1 := (nodes_perm h).map (gs t.ns)
  rw [← hl, range_gs] at h1
  exact h1
theorem leafs_perm (h : treeErr t = 0) : (leafR (toR t)).Perm (fltN t.ns) := (ns_perm h).filter _
theorem leaf_one31 {nm : ByteArray} (h : nm.size ≠ 0) : leafR (.node nm []) = [nm] := by
  unfold leafR
  rw [nsR, nsRs]
  exact List.filter_eq_self.2 fun x hx => decide_eq_true (by rw [List.mem_singleton.1 hx]; exact h)
/-- The leaf that is met first. -/
theorem leaf_head : ∀ (r : RT), (∀ s ∈ subR r, s.kids ≠ [] → s.nm.size = 0) → (∀ s ∈ subR r, s.kids = [] → s.nm.size ≠ 0) → ∃ l, leafR r = firstR r :: l
  | .node nm [], _, h2 => ⟨[], by
    have h := h2 (.node nm []) (by rw [subR]; exact List.mem_cons_self) rfl
    rw [leaf_one31 (nm := nm) h, firstR]⟩
  | .node nm (k :: ks), h1, h2 => by
    have h0 : nm.size = 0 := h1 (.node nm (k :: ks)) (by rw [subR]; exact List.mem_cons_self) (by simp [RT.kids])
    have hk : ∀ s ∈ subR k, s ∈ subR (.node nm (k :: ks)) := fun s hs => by rw [subR, subRs]; simp [hs]
    obtain ⟨l, hl⟩ := leaf_head k (fun s hs => h1 s (hk s hs)) (fun s hs => h2 s (hk s hs))
    rw [leafR_node h0, List.flatMap_cons, hl, firstR]
    exact ⟨_, rfl⟩
theorem GoodR.head {r : RT} (h : GoodR r) : ∃ l, leafR r = firstR r :: l := leaf_head r h.inn fun s hs hk => named_size (h.lf s hs hk)
end
theorem GoodR.kid {nm : ByteArray} {ks : List RT} (h : GoodR (.node nm ks)) {k : RT} (hk : k ∈ ks) : GoodR k := by
  have hs : ∀ s ∈ subR k, s ∈ subR (.node nm ks) := fun s hs => by rw [subR, subRs_flat]; exact List.mem_cons_of_mem _ (List.mem_flatMap.2 ⟨k, hk, hs⟩)
  exact ⟨fun s h1 => h.inn s (hs s h1), fun s h1 => h.lf s (hs s h1), (leafR_sub (hs k (subR_self k))).nodup h.nd⟩
end Go.Proofs.Ytcaialhoclodjaa
namespace Go.Proofs.Ytcaialhoclodjaa
/-- Some part has these leaves. -/
def FamR (r : RT) (X : ByteArray → Prop) : Prop := ∃ s ∈ subR r, ∀ x, X x ↔ x ∈ leafR s
/-- Some part has all other leaves. -/
def CoR (r : RT) (X : ByteArray → Prop) : Prop := ∃ s ∈ subR r, ∀ x, X x ↔ x ∈ leafR r ∧ x ∉ leafR s
/-- The leaves of the parts of a tree that was rerooted at the leaf a. -/
def RrtS (r : RT) (a : ByteArray) (X : ByteArray → Prop) : Prop := (∀ x, X x ↔ x ∈ leafR r) ∨ (∀ x, X x ↔ x = a) ∨ (¬ X a ∧ (∃ x, X x) ∧ (FamR r X ∨ CoR r X))
theorem leaf_reach {F : Frs} {n : Nat} {rk : Nat → Nat} (h : Wf F n rk) {z : Nat} (hz : z < n) {x : ByteArray} : x ∈ leafR (toRF F rk z) ↔ ∃ j, j < n ∧ subF F rk z j = true ∧ (F.nm j).size ≠ 0 ∧ x = F.nm j := by
  unfold leafR
  rw [nsR_toRF h hz, List.mem_filter, List.mem_map]
  constructor
  · rintro ⟨⟨j, hj, rfl⟩, h0⟩
    have hs := (mem_nodesF h hz (Nat.le_refl _)).1 hj
    exact ⟨j, subF_lt h hz (Nat.le_refl _) hs, hs, of_decide_eq_true h0, rfl⟩
  · rintro ⟨j, _, hs, h0, rfl⟩
    exact ⟨⟨j, (mem_nodesF h hz (Nat.le_refl _)).2 hs, rfl⟩, decide_eq_true h0⟩
theorem al_ex {F : Frs} {n : Nat} {rk : Nat → Nat} {P : Nat → Bool} (h : Wf F n rk) : ∀ (d z : Nat), rk z ≤ d → z < n → al F P rk z = true → ∃ j, j < n ∧ subF F rk z j = true ∧ F.kids j = [] ∧ P j = true
  | d, z, hd, hz, ha => by
    rw [al_eq h hz] at ha
    by_cases h0 : F.kids z = []
    · rw [if_pos h0] at ha
      exact ⟨z, hz, subF_self h hz, h0, ha⟩
    · rw [if_neg h0] at ha
      obtain ⟨k, hk, hka⟩ := List.any_eq_true.1 ha
      have hkk := h.kid z hz k hk
      cases d with
      | zero => omega
      | succ d =>
        obtain ⟨j, h1, h2, h3, h4⟩ := al_ex h d k (by omega) hkk.1 hka
        exact ⟨j, h1, subF_kid h hz hk h2, h3, h4⟩
section
variable {t : Tre} {leaf : Nat}
theorem und_iff (h : treeErr t = 0) {z : Nat} (hz : z < t.ps.length) {x : ByteArray} : x ∈ leafR (toRF (frT t) (rkT t) z) ↔ ∃ j, j < t.ps.length ∧ hitB t.ps z j = true ∧ (gs t.ns j).size ≠ 0 ∧ x = gs t.ns j := by
  rw [leaf_reach (frT_arb h).wf hz]
  constructor
  · rintro ⟨j, hj, hs, h0, e⟩
    exact ⟨j, hj, by rw [← sub_hit h _ z j (Nat.le_refl _) hz hj]; exact hs, h0, e⟩
  · rintro ⟨j, hj, hs, h0, e⟩
    exact ⟨j, hj, by rw [sub_hit h _ z j (Nat.le_refl _) hz hj]; exact hs, h0, e⟩
theorem fam_toR (h : treeErr t = 0) {X : ByteArray → Prop} : FamR (toR t) X ↔ ∃ z, z < t.ps.length ∧ ∀ x, X x ↔ ∃ j, j < t.ps.length ∧ hitB t.ps z j = true ∧ (gs t.ns j).size ≠ 0 ∧ x = gs t.ns j := by
  unfold FamR
  rw [subR_toR h]
  constructor
  · rintro ⟨s, hs, hx⟩
    obtain ⟨z, hz, rfl⟩ := List.mem_map.1 hs
    have hz := mem_nodes_lt h hz
    exact ⟨z, hz, fun x => (hx x).trans (und_iff h hz)⟩
  · rintro ⟨z, hz, hx⟩
    exact ⟨_, List.mem_map_of_mem ((nodes_perm h).mem_iff.2 (List.mem_range.2 hz)), fun x => (hx x).trans (und_iff h hz).symm⟩
theorem leaf_all (h : treeErr t = 0) {x : ByteArray} : x ∈ leafR (toR t) ↔ ∃ j, j < t.ps.length ∧ (gs t.ns j).size ≠ 0 ∧ x = gs t.ns j := by
  have h0 := (treeErr_zero h).1
  refine (und_iff h h0).trans ⟨fun ⟨j, h1, _, h2⟩ => ⟨j, h1, h2⟩, fun ⟨j, h1, h2⟩ => ⟨j, h1, hit_all0 h j j (Nat.le_refl _) h1, h2⟩⟩
theorem co_toR (h : treeErr t = 0) {X : ByteArray → Prop} : CoR (toR t) X ↔ ∃ z, z < t.ps.length ∧ ∀ x, X x ↔ x ∈ leafR (toR t) ∧ ¬ ∃ j, j < t.ps.length ∧ hitB t.ps z j = true ∧ (gs t.ns j).size ≠ 0 ∧ x = gs t.ns j := by
  unfold CoR
  rw [subR_toR h]
  constructor
  · rintro ⟨s, hs, hx⟩
    obtain ⟨z, hz, rfl⟩ := List.mem_map.1 hs
    have hz := mem_nodes_lt h hz
    exact ⟨z, hz, fun x => by rw [hx x, und_iff h hz]⟩
  · rintro ⟨z, hz, hx⟩
    exact ⟨_, List.mem_map_of_mem ((nodes_perm h).mem_iff.2 (List.mem_range.2 hz)), fun x => by rw [hx x, und_iff h hz]⟩
theorem LeafOk.inj (h : LeafOk t leaf) {a b : Nat} (ha : a < t.ps.length) (hb : b < t.ps.length) (h0 : (gs t.ns a).size ≠ 0) (e : gs t.ns a = gs t.ns b) : a = b := by
  have ea : (rrF t leaf).nm a = gs t.ns a := upd_ne _ _ (by omega)
  have eb : (rrF t leaf).nm b = gs t.ns b := upd_ne _ _ (by omega)
  exact rr_names h a b (by omega) (by omega) (by rw [ea]; exact h0) (by rw [ea, eb]; exact e)
theorem reach_off (h : LeafOk t leaf) : ∀ (d z j : Nat), t.ps.length - z ≤ d → z < t.ps.length → j < t.ps.length + 1 → (onP t leaf z = false ∨ z = leaf) → (subF (rrF t leaf) (rkR t leaf) z j = true ↔ j < t.ps.length ∧ hitB t.ps z j = true)
  | d, z, j, hd, hz, hj, ho => by
    have hw := (rr_arb h).wf
    have hkz : (rrF t leaf).kids z = kidsL t.ps z := by
      show rrQ t leaf z = _
      unfold rrQ
      rw [if_neg (by omega), if_neg]
      rintro ⟨h1, h2⟩
      rcases ho with e | e
      · rw [e] at h1; cases h1
      · exact h2 e
    have hoff : ∀ c ∈ kidsL t.ps z, onP t leaf c = false := fun c hc => by
      obtain ⟨h1, h2, h3⟩ := mem_kidsL.1 hc
      cases e : onP t leaf c with
      | false => rfl
      | true =>
        have := h.on_par e (by omega) h3
        rcases ho with e2 | e2
        · rw [e2] at this; cases this
        · rw [e2, h.nokid] at hc; cases hc
    constructor
    · intro hs
      rcases subF_cases hw (by omega) hs with e | ⟨c, hc, h2⟩
      · subst e; exact ⟨hz, hit_self _⟩
      · rw [hkz] at hc
        obtain ⟨h1, h3, h4⟩ := mem_kidsL.1 hc
        cases d with
        | zero => omega
        | succ d =>
          obtain ⟨h5, h6⟩ := (reach_off h d c j (by omega) h1 hj (.inl (hoff c hc))).1 h2
          exact ⟨h5, (hit_kid h.ok h5).2 (.inr ⟨c, h1, h3, h4, h6⟩)⟩
    · rintro ⟨h1, h2⟩
      rcases (hit_kid h.ok h1).1 h2 with e | ⟨c, h3, h4, h5, h6⟩
      · subst e; exact subF_self hw (by omega)
      · have hc : c ∈ kidsL t.ps z := mem_kidsL.2 ⟨h3, h4, h5⟩
        cases d with
        | zero => omega
        | succ d => exact subF_kid hw (by omega) (by rw [hkz]; exact hc) ((reach_off h d c j (by omega) h3 hj (.inl (hoff c hc))).2 ⟨h1, h6⟩)
theorem reach_on (h : LeafOk t leaf) : ∀ (d z c j : Nat), z ≤ d → z < t.ps.length → j < t.ps.length + 1 → c < t.ps.length → z < c → gi t.ps c = (z : Int) → onP t leaf c = true → (subF (rrF t leaf) (rkR t leaf) z j = true ↔ j < t.ps.length ∧ hitB t.ps c j = false)
  | d, z, c, j, hd, hz, hj, hc, hzc, hpc, hoc => by
    have hw := (rr_arb h).wf
    have hoz : onP t leaf z = true := h.on_par hoc (by omega) hpc
    have hzl : z ≠ leaf := fun e => by have := h.on_le hoc; omega
    have hkz : (rrF t leaf).kids z = (kidsL t.ps z).filter (fun k => !onP t leaf k) ++ (if z = 0 then [] else [(gi t.ps z).toNat]) := by
      show rrQ t leaf z = _
      unfold rrQ
      rw [if_neg (by omega), if_pos ⟨hoz, hzl⟩]
    have hcz : ∀ {j : Nat}, j < t.ps.length → hitB t.ps c j = true → hitB t.ps z j = true := fun {j} hj hh => (hit_kid h.ok hj).2 (.inr ⟨c, hc, hzc, hpc, hh⟩)
    constructor
    · intro hs
      rcases subF_cases hw (by omega) hs with e | ⟨k, hk, h2⟩
      · subst e
        refine ⟨hz, ?_⟩
        cases e2 : hitB t.ps c j with
        | false => rfl
        | true => have := hit_le h.ok hz e2; omega
      · rw [hkz] at hk
        rcases List.mem_append.1 hk with h3 | h3
        · obtain ⟨h3, h4⟩ := List.mem_filter.1 h3
          obtain ⟨h5, h6, h7⟩ := mem_kidsL.1 h3
          have h4 : onP t leaf k = false := by simpa using h4
          obtain ⟨h8, h9⟩ := (reach_off h _ k j (Nat.le_refl _) h5 hj (.inl h4)).1 h2
          refine ⟨h8, ?_⟩
          cases e2 : hitB t.ps c j with
          | false => rfl
          | true =>
            exfalso
            have hne : k ≠ c := fun e3 => by rw [e3, hoc] at h4; cases h4
            rcases Nat.lt_or_ge k c with hlt | hge
            · have h10 := hit_chain h.ok (Nat.le_of_lt hlt) j j (Nat.le_refl _) h8 h9 e2
              rw [hit_step h.ok hc hlt, hpc] at h10
              have := hit_le h.ok (show z < _ by omega) h10
              omega
            · have h10 := hit_chain h.ok hge j j (Nat.le_refl _) h8 e2 h9
              rw [hit_step h.ok h5 (by omega), h7] at h10
              have := hit_le h.ok (show z < _ by omega) h10
              omega
        · by_cases h0 : z = 0
          · rw [if_pos h0] at h3; cases h3
          · rw [if_neg h0, List.mem_singleton] at h3
            obtain ⟨q, hq1, hq2⟩ := h.par hz h0
            have hkq : k = q := by omega
            subst hkq
            cases d with
            | zero => omega
            | succ d =>
              obtain ⟨h4, h5⟩ := (reach_on h d k z j (by omega) (by omega) hj hz hq2 hq1 hoz).1 h2
              refine ⟨h4, ?_⟩
              cases e2 : hitB t.ps c j with
              | false => rfl
              | true => rw [hcz h4 e2] at h5; cases h5
    · rintro ⟨h1, h2⟩
      cases e : hitB t.ps z j with
      | true =>
        rcases (hit_kid h.ok h1).1 e with e2 | ⟨k, h3, h4, h5, h6⟩
        · subst e2; exact subF_self hw (by omega)
        · have hko : onP t leaf k = false := by
            cases e3 : onP t leaf k with
            | false => rfl
            | true =>
              have := h.on_one e3 hoc h4 hzc h5 hpc
              subst this; rw [h6] at h2; cases h2
          exact subF_kid hw (by omega) (by rw [hkz]; exact List.mem_append_left _ (List.mem_filter.2 ⟨mem_kidsL.2 ⟨h3, h4, h5⟩, by simp [hko]⟩)) ((reach_off h _ k j (Nat.le_refl _) h3 hj (.inl hko)).2 ⟨h1, h6⟩)
      | false =>
        by_cases h0 : z = 0
        · subst h0; rw [hit_all0 h.te j j (Nat.le_refl _) h1] at e; cases e
        · obtain ⟨q, hq1, hq2⟩ := h.par hz h0
          cases d with
          | zero => omega
          | succ d => exact subF_kid hw (by omega) (by rw [hkz, if_neg h0]; exact List.mem_append_right _ (by simp; omega)) ((reach_on h d q z j (by omega) (by omega) hj hz hq2 hq1 hoz).2 ⟨h1, e⟩)
/-- A part of the pruned forest: the names that are reached. -/
theorem rr_part (h : LeafOk t leaf) {z : Nat} (hz : z < t.ps.length + 1) {x : ByteArray} :
    x ∈ leafR (toRF ((rrF t leaf).sub (rkR t leaf) (prQ (rrF t leaf) (rrP t leaf) (rkR t leaf)) t.ps.length) (rkR t leaf) z) ↔ ∃ j, j < t.ps.length ∧ subF (rrF t leaf) (rkR t leaf) z j = true ∧ (gs t.ns j).size ≠ 0 ∧ x = gs t.ns j := by
  have hw := (rr_arb h).wf
  have hn : t.ps.length < t.ps.length + 1 := Nat.lt_succ_self _
  rw [leaf_reach (pr_wf hw _) hz]
  have hnm : ∀ j, j < t.ps.length → (rrF t leaf).nm j = gs t.ns j := fun j hj => upd_ne _ _ (by omega)
  have hne : ∀ j, j < t.ps.length + 1 → ((rrF t leaf).nm j).size ≠ 0 → j < t.ps.length := fun j hj h0 => by
    by_cases e : j = t.ps.length
    · subst e
      exact absurd (show (upd (gs t.ns) _ _ _).size = 0 by rw [upd_same]; rfl) h0
    · omega
  constructor
  · rintro ⟨j, hj, hs, h0, e⟩
    have h0 : ((rrF t leaf).nm j).size ≠ 0 := h0
    have hjl := hne j hj h0
    have e : x = (rrF t leaf).nm j := e
    rw [hnm j hjl] at h0 e
    exact ⟨j, hjl, pr_below hw _ _ z j (Nat.le_refl _) hz hs, h0, e⟩
  · rintro ⟨j, hj, hs, h0, e⟩
    have h0' : ((rrF t leaf).nm j).size ≠ 0 := by rw [hnm j hj]; exact h0
    have hk : (rrF t leaf).kids j = [] := by
      by_cases c : (rrF t leaf).kids j = []
      · exact c
      · exact absurd (rr_inner h (by omega) c) h0'
    have ha : al (rrF t leaf) (rrP t leaf) (rkR t leaf) j = true := by
      rw [al_eq hw (by omega), if_pos hk]; exact decide_eq_true h0'
    exact ⟨j, by omega, (pr_reach hw hn _ z j (Nat.le_refl _) hz (rr_all h z hz) hs ha).2, h0', by rw [e]; exact (hnm j hj).symm⟩
theorem rr_fam0 (h : LeafOk t leaf) {X : ByteArray → Prop} : FamR (rrR t leaf) X ↔ ∃ z, z < t.ps.length + 1 ∧ (∃ x, X x) ∧ ∀ x, X x ↔ ∃ j, j < t.ps.length ∧ subF (rrF t leaf) (rkR t leaf) z j = true ∧ (gs t.ns j).size ≠ 0 ∧ x = gs t.ns j := by
  have hw := (rr_arb h).wf
  have hn : t.ps.length < t.ps.length + 1 := Nat.lt_succ_self _
  have hnm : ∀ j, j < t.ps.length → (rrF t leaf).nm j = gs t.ns j := fun j hj => upd_ne _ _ (by omega)
  unfold FamR rrR
  rw [subR_toRF (pr_wf hw _) hn (Nat.le_refl _)]
  constructor
  · rintro ⟨s, hs, hx⟩
    obtain ⟨z, hz, rfl⟩ := List.mem_map.1 hs
    have hsz := (mem_nodesF (pr_wf hw _) hn (Nat.le_refl _)).1 hz
    have hzn := subF_lt (pr_wf hw _) hn (Nat.le_refl _) hsz
    have hx2 : ∀ x, X x ↔ ∃ j, j < t.ps.length ∧ subF (rrF t leaf) (rkR t leaf) z j = true ∧ (gs t.ns j).size ≠ 0 ∧ x = gs t.ns j := fun x => (hx x).trans (rr_part h hzn)
    refine ⟨z, hzn, ?_, hx2⟩
    have ha := pr_alive hw hn _ _ z (Nat.le_refl _) hn (subF_self hw hn) (rr_facts h).1 hsz
    obtain ⟨j, h1, h2, h3, h4⟩ := al_ex hw _ z (Nat.le_refl _) hzn ha
    have h4 : ((rrF t leaf).nm j).size ≠ 0 := of_decide_eq_true h4
    have hjl : j < t.ps.length := by
      by_cases e : j = t.ps.length
      · subst e
        exact absurd (show (upd (gs t.ns) _ _ _).size = 0 by rw [upd_same]; rfl) h4
      · omega
    rw [hnm j hjl] at h4
    exact ⟨_, (hx2 _).2 ⟨j, hjl, h2, h4, rfl⟩⟩
  · rintro ⟨z, hz, ⟨x0, h0⟩, hx⟩
    refine ⟨_, List.mem_map_of_mem ((mem_nodesF (pr_wf hw _) hn (Nat.le_refl _)).2 ?_), fun x => (hx x).trans (rr_part h hz).symm⟩
    obtain ⟨j, h1, h2, h3, h4⟩ := (hx x0).1 h0
    have h3' : ((rrF t leaf).nm j).size ≠ 0 := by rw [hnm j h1]; exact h3
    have hk : (rrF t leaf).kids j = [] := by
      by_cases c : (rrF t leaf).kids j = []
      · exact c
      · exact absurd (rr_inner h (by omega) c) h3'
    have ha : al (rrF t leaf) (rrP t leaf) (rkR t leaf) j = true := by
      rw [al_eq hw (by omega), if_pos hk]; exact decide_eq_true h3'
    have haz := (pr_reach hw hn _ z j (Nat.le_refl _) hz (rr_all h z hz) h2 ha).1
    exact (pr_reach hw hn _ t.ps.length z (Nat.le_refl _) hn (subF_self hw hn) (rr_all h z hz) haz).2
theorem rr_fam (h : LeafOk t leaf) {X : ByteArray → Prop} : FamR (rrR t leaf) X ↔ RrtS (toR t) (gs t.ns leaf) X := by
  have hlt := h.lt
  have hinj : ∀ {a b : Nat}, a < t.ps.length → b < t.ps.length → (gs t.ns a).size ≠ 0 → gs t.ns a = gs t.ns b → a = b := fun ha hb h0 e => h.inj ha hb h0 e
  have hleaf : ∀ {j : Nat}, j < t.ps.length → hitB t.ps leaf j = true → j = leaf := fun {j} hj hh => by
    rcases (hit_kid h.ok hj).1 hh with e | ⟨c, h1, h2, h3, _⟩
    · exact e
    · have : c ∈ kidsL t.ps leaf := mem_kidsL.2 ⟨h1, h2, h3⟩
      rw [h.nokid] at this; cases this
  rw [rr_fam0 h]
  constructor
  · rintro ⟨z, hz, hne, hx⟩
    by_cases hr : z = t.ps.length
    · left
      intro x
      rw [hx x, leaf_all h.te]
      subst hr
      exact ⟨fun ⟨j, h1, _, h2⟩ => ⟨j, h1, h2⟩, fun ⟨j, h1, h2⟩ => ⟨j, h1, rr_all h j (by omega), h2⟩⟩
    have hzl : z < t.ps.length := by omega
    right
    by_cases hl : z = leaf
    · left
      intro x
      rw [hx x]
      constructor
      · rintro ⟨j, h1, h2, _, h4⟩
        have := hleaf h1 (by rw [← hl]; exact ((reach_off h _ z j (Nat.le_refl _) hzl (by omega) (.inr hl)).1 h2).2)
        rw [h4, this]
      · intro e
        exact ⟨leaf, hlt, by rw [hl]; exact subF_self (rr_arb h).wf (by omega), h.nm, e⟩
    right
    refine ⟨?_, hne, ?_⟩
    · intro ha
      obtain ⟨j, h1, h2, h3, h4⟩ := (hx _).1 ha
      have hj : leaf = j := hinj hlt h1 h.nm h4
      subst hj
      cases ho : onP t leaf z with
      | false =>
        have := ((reach_off h _ z leaf (Nat.le_refl _) hzl (by omega) (.inl ho)).1 h2).2
        unfold onP at ho
        rw [this] at ho; cases ho
      | true =>
        obtain ⟨c, c1, c2, c3, c4⟩ := h.on_kid ho hl
        have := ((reach_on h _ z c leaf (Nat.le_refl _) hzl (by omega) c1 c2 c3 c4).1 h2).2
        unfold onP at c4
        rw [this] at c4; cases c4
    · cases ho : onP t leaf z with
      | false =>
        left
        rw [fam_toR h.te]
        refine ⟨z, hzl, fun x => (hx x).trans ?_⟩
        constructor
        · rintro ⟨j, h1, h2, h3⟩
          exact ⟨j, h1, ((reach_off h _ z j (Nat.le_refl _) hzl (by omega) (.inl ho)).1 h2).2, h3⟩
        · rintro ⟨j, h1, h2, h3⟩
          exact ⟨j, h1, (reach_off h _ z j (Nat.le_refl _) hzl (by omega) (.inl ho)).2 ⟨h1, h2⟩, h3⟩
      | true =>
        right
        obtain ⟨c, c1, c2, c3, c4⟩ := h.on_kid ho hl
        rw [co_toR h.te]
        refine ⟨c, c1, fun x => (hx x).trans ?_⟩
        rw [leaf_all h.te]
        constructor
        · rintro ⟨j, h1, h2, h3, h4⟩
          refine ⟨⟨j, h1, h3, h4⟩, ?_⟩
          rintro ⟨i, i1, i2, i3, i4⟩
          have : j = i := hinj h1 i1 h3 (by rw [← h4, i4])
          subst this
          have := ((reach_on h _ z c j (Nat.le_refl _) hzl (by omega) c1 c2 c3 c4).1 h2).2
          rw [this] at i2; cases i2
        · rintro ⟨⟨j, h1, h3, h4⟩, hn⟩
          refine ⟨j, h1, (reach_on h _ z c j (Nat.le_refl _) hzl (by omega) c1 c2 c3 c4).2 ⟨h1, ?_⟩, h3, h4⟩
          cases e : hitB t.ps c j with
          | false => rfl
          | true => exact absurd ⟨j, h1, e, h3, h4⟩ hn
  · rintro (hx | hx | ⟨hna, hne, hx | hx⟩)
    · refine ⟨t.ps.length, Nat.lt_succ_self _, ⟨_, (hx _).2 ((leaf_all h.te).2 ⟨leaf, hlt, h.nm, rfl⟩)⟩, fun x => ?_⟩
      rw [hx x, leaf_all h.te]
      exact ⟨fun ⟨j, h1, h2⟩ => ⟨j, h1, rr_all h j (by omega), h2⟩, fun ⟨j, h1, _, h2⟩ => ⟨j, h1, h2⟩⟩
    · refine ⟨leaf, by omega, ⟨_, (hx _).2 rfl⟩, fun x => (hx x).trans ?_⟩
      constructor
      · intro e
        exact ⟨leaf, hlt, subF_self (rr_arb h).wf (by omega), h.nm, e⟩
      · rintro ⟨j, h1, h2, _, h4⟩
        have := hleaf h1 ((reach_off h _ leaf j (Nat.le_refl _) hlt (by omega) (.inr rfl)).1 h2).2
        rw [h4, this]
    · rw [fam_toR h.te] at hx
      obtain ⟨z, hz, hx⟩ := hx
      have ho : onP t leaf z = false := by
        cases ho : onP t leaf z with
        | false => rfl
        | true => exact absurd ((hx _).2 ⟨leaf, hlt, ho, h.nm, rfl⟩) hna
      refine ⟨z, by omega, hne, fun x => (hx x).trans ?_⟩
      constructor
      · rintro ⟨j, h1, h2, h3⟩
        exact ⟨j, h1, (reach_off h _ z j (Nat.le_refl _) hz (by omega) (.inl ho)).2 ⟨h1, h2⟩, h3⟩
      · rintro ⟨j, h1, h2, h3⟩
        exact ⟨j, h1, ((reach_off h _ z j (Nat.le_refl _) hz (by omega) (.inl ho)).1 h2).2, h3⟩
    · rw [co_toR h.te] at hx
      obtain ⟨c, hc, hx⟩ := hx
      have hoc : onP t leaf c = true := by
        cases ho : onP t leaf c with
        | true => rfl
        | false =>
          refine absurd ((hx _).2 ⟨(leaf_all h.te).2 ⟨leaf, hlt, h.nm, rfl⟩, ?_⟩) hna
          rintro ⟨j, h1, h2, h3, h4⟩
          have := hinj hlt h1 h.nm h4
          subst this
          unfold onP at ho
          rw [h2] at ho; cases ho
      have hc0 : c ≠ 0 := by
        rintro rfl
        obtain ⟨x, hx0⟩ := hne
        obtain ⟨h1, h2⟩ := (hx x).1 hx0
        obtain ⟨j, h3, h4, h5⟩ := (leaf_all h.te).1 h1
        exact h2 ⟨j, h3, hit_all0 h.te j j (Nat.le_refl _) h3, h4, h5⟩
      obtain ⟨z, hz1, hz2⟩ := h.par hc hc0
      refine ⟨z, by omega, hne, fun x => (hx x).trans ?_⟩
      rw [leaf_all h.te]
      constructor
      · rintro ⟨⟨j, h1, h3, h4⟩, hn⟩
        refine ⟨j, h1, (reach_on h _ z c j (Nat.le_refl _) (by omega) (by omega) hc hz2 hz1 hoc).2 ⟨h1, ?_⟩, h3, h4⟩
        cases e : hitB t.ps c j with
        | false => rfl
        | true => exact absurd ⟨j, h1, e, h3, h4⟩ hn
      · rintro ⟨j, h1, h2, h3, h4⟩
        refine ⟨⟨j, h1, h3, h4⟩, ?_⟩
        rintro ⟨i, i1, i2, i3, i4⟩
        have : j = i := hinj h1 i1 h3 (by rw [← h4, i4])
        subst this
        have := ((reach_on h _ z c j (Nat.le_refl _) (by omega) (by omega) hc hz2 hz1 hoc).1 h2).2
        rw [this] at i2; cases i2
end
end Go.Proofs.Ytcaialhoclodjaa
namespace Go.Proofs.Ytcaialhoclodjaa
open Go.RowKit Go.Deep
end Go.Proofs.Ytcaialhoclodjaa
namespace Go.Proofs.Ytcaialhoclodjaa
open Go.RowKit Go.Deep
def t3 : Tre := ⟨[-1, 0, 1, 1, 0], [⟨#[]⟩, ⟨#[]⟩, ⟨#[65]⟩, ⟨#[66]⟩, ⟨#[67]⟩]⟩
def s3 : List Int := [0, 1, 1]
def u2 : List (List Int) := [[0, 1], [1, 0]]
theorem lit_ints (w : World) (cs : Array Value) (T : TypeId) (xs : List Int) (hcs : cs.toList = xs.map (Value.int .i64)) (n : Nat) (hn : n = xs.length) : IntsAt Any (w.alloc (.cells cs T)) (.slice (some ⟨w.heap.size, 0, none⟩) n n) xs := by
  subst hn
  refine ⟨_, _, rfl, Nat.le_refl _, .inr ⟨_, 0, rfl, trivial, fun k hk => ?_⟩⟩
  rw [Nat.zero_add, cell_at_new, ← Array.getElem?_toList, hcs]
  simp [gi, hk]
theorem lit_strs (w : World) (cs : Array Value) (T : TypeId) (xs : List ByteArray) (hcs : cs.toList = xs.map Value.string) (n : Nat) (hn : n = xs.length) : StrsAt Any (w.alloc (.cells cs T)) (.slice (some ⟨w.heap.size, 0, none⟩) n n) xs := by
  subst hn
  refine ⟨_, _, rfl, Nat.le_refl _, .inr ⟨_, 0, rfl, trivial, fun k hk => ?_⟩⟩
  rw [Nat.zero_add, cell_at_new, ← Array.getElem?_toList, hcs]
  simp [gs, hk]
theorem equal_yes (S T : Nat → Prop) (w : World) (v u : Value) (xs ys : List Int) (h : IntsAt S w v xs) (h2 : IntsAt T w u ys) (hn : xs.length ≤ 1000000) (hn2 : ys.length ≤ 1000000) (e : xs = ys) :
    Calls Try.prog 38 #[v, u] w (EqPost w true) := by
  have h3 := equal_int_t S T w v u xs ys h h2 hn hn2
  rw [decide_eq_true e] at h3; exact h3
theorem sized3 : Sized t3 s3 u2 := ⟨by decide, by decide, fun k => by
  by_cases h : k < 5
  · have : k = 0 ∨ k = 1 ∨ k = 2 ∨ k = 3 ∨ k = 4 := by omega
    rcases this with rfl | rfl | rfl | rfl | rfl <;> decide
  · simp [gs, t3, List.getElem?_eq_none (by simp; omega : [(⟨#[]⟩ : ByteArray), ⟨#[]⟩, ⟨#[65]⟩, ⟨#[66]⟩, ⟨#[67]⟩].length ≤ k)], by decide, by decide, fun k => by
  by_cases h : k < 2
  · have : k = 0 ∨ k = 1 := by omega
    rcases this with rfl | rfl <;> decide
  · simp [gl, u2, List.getElem?_eq_none (by simp; omega : [[(0 : Int), 1], [1, 0]].length ≤ k)]⟩
theorem par3 : parErr t3 s3 u2 = 0 := by decide +kernel
theorem score3 : scoreN t3 s3 u2 = 1 := by decide +kernel
theorem assign3 : assignN t3 s3 u2 = [1, 1, 0, 1, 1] := by decide +kernel
theorem table3 : tableN t3 s3 u2 = [[2, 1], [1, 1], [0, -1], [-1, 0], [-1, 0]] := by decide +kernel
def ThPost (w : World) (e : Ending) (w' : World) : Prop := Up w w' ∧ ∃ v, e = .returned v ∧ TreeAt Any w' v t3
set_option maxRecDepth 100000 in
set_option maxHeartbeats 400000 in
theorem three_t (w : World) : Calls Try.prog 35 #[] w (ThPost w) := by
  go_enter Try.func35, Try.ntmps35
  go_wp2_with fail
  have hP := lit_ints (w.alloc (.cells #[.slice (some ⟨w.heap.size + 1, 0, none⟩) 5 5, .slice (some ⟨w.heap.size + 1 + 1, 0, none⟩) 5 5] 25)) #[.int .i64 (-1), .int .i64 0, .int .i64 1, .int .i64 1, .int .i64 0] 3 t3.ps rfl 5 rfl
  have hN := lit_strs ((w.alloc (.cells #[.slice (some ⟨w.heap.size + 1, 0, none⟩) 5 5, .slice (some ⟨w.heap.size + 1 + 1, 0, none⟩) 5 5] 25)).alloc (.cells #[.int .i64 (-1), .int .i64 0, .int .i64 1, .int .i64 1, .int .i64 0] 3)) #[.string ⟨#[]⟩, .string ⟨#[]⟩, .string ⟨#[65]⟩, .string ⟨#[66]⟩, .string ⟨#[67]⟩] 9 t3.ns rfl 5 rfl
  simp only [World.size_alloc] at hP hN
  refine bodyPost_ret (v := .agg #[.slice (some ⟨w.heap.size + 1, 0, none⟩) 5 5, .slice (some ⟨w.heap.size + 1 + 1, 0, none⟩) 5 5]) (by simp [results, Try.results35, go_sem]) rfl ⟨?_, _, rfl, _, _, rfl, hP.keep ((Up.alloc _ _).kept _), hN⟩
  exact ((Up.alloc _ _).trans (Up.alloc _ _)).trans (Up.alloc _ _)
set_option maxRecDepth 100000 in
set_option maxHeartbeats 1000000 in
theorem awake_t (w : World) : Calls Try.prog 10 #[] w fun e w' => e = .returned (.bool true) ∧ Up w w' := by
  have hA := lit_ints w #[.int .i64 0, .int .i64 1] 3 [0, 1] rfl 2 rfl
  have hB := lit_ints (w.alloc (.cells #[.int .i64 0, .int .i64 1] 3)) #[.int .i64 1, .int .i64 0] 3 [1, 0] rfl 2 rfl
  have hu := ((Up.alloc w (.cells #[.int .i64 0, .int .i64 1] 3)).trans (Up.alloc _ (.cells #[.int .i64 1, .int .i64 0] 3))).trans (Up.alloc _ (.cells #[.slice (some ⟨w.heap.size, 0, none⟩) 2 2, .slice (some ⟨w.heap.size + 1, 0, none⟩) 2 2] 22))
  have hC : RowsAt Any (((w.alloc (.cells #[.int .i64 0, .int .i64 1] 3)).alloc (.cells #[.int .i64 1, .int .i64 0] 3)).alloc (.cells #[.slice (some ⟨w.heap.size, 0, none⟩) 2 2, .slice (some ⟨w.heap.size + 1, 0, none⟩) 2 2] 22)) (.slice (some ⟨w.heap.size + 1 + 1, 0, none⟩) 2 2) u2 := by
    simp only [World.size_alloc] at hB
    refine ⟨fun k => .slice (some ⟨w.heap.size + k, 0, none⟩) 2 2, ⟨_, _, rfl, Nat.le_refl _, .inr ⟨_, 0, rfl, trivial, fun k hk => ?_⟩⟩, fun k hk => ?_⟩
    · have h2 : k < 2 := hk
      have h := cell_at_new ((w.alloc (.cells #[.int .i64 0, .int .i64 1] 3)).alloc (.cells #[.int .i64 1, .int .i64 0] 3)) #[.slice (some ⟨w.heap.size, 0, none⟩) 2 2, .slice (some ⟨w.heap.size + 1, 0, none⟩) 2 2] 22 k
      simp only [World.size_alloc] at h
      rw [Nat.zero_add, h]
      have : k = 0 ∨ k = 1 := by omega
      rcases this with rfl | rfl <;> rfl
    · have h2 : k < 2 := hk
      have : k = 0 ∨ k = 1 := by omega
      rcases this with rfl | rfl
      · exact (IntsAt.keep hA (((Up.alloc _ _).trans (Up.alloc _ _)).kept _))
      · exact (IntsAt.keep hB ((Up.alloc _ _).kept _))
  have HU := Lib.hid hu
  have HC := Lib.hid hC
  clear hA hB hu hC
  go_enter Try.func10, Try.ntmps10
  go_wp2_with fail
  generalize (((w.alloc (.cells #[.int .i64 0, .int .i64 1] 3)).alloc (.cells #[.int .i64 1, .int .i64 0] 3)).alloc (.cells #[.slice (some ⟨w.heap.size, 0, none⟩) 2 2, .slice (some ⟨w.heap.size + 1, 0, none⟩) 2 2] 22)) = w1 at *
  refine (three_t w1).mono ?_
  rintro e w2 ⟨hu2, v, rfl, hT⟩
  have HU2 := Lib.hid (HU.out.trans hu2)
  have HC2 := Lib.hid (HC.out.keep (hu2.kept _))
  have HT2 := Lib.hid hT
  clear hu2 hT HU HC
  go_wp2_with fail
  have hI2 := lit_ints w2 #[.int .i64 0, .int .i64 1, .int .i64 1] 3 s3 rfl 3 rfl
  have hv2 := Up.alloc w2 (.cells #[.int .i64 0, .int .i64 1, .int .i64 1] 3)
  refine (score_t Any _ _ _ _ t3 s3 u2 (HT2.out.keep (hv2.kept _)) hI2 (HC2.out.keep (hv2.kept _)) sized3).mono ?_
  rintro e w3 ⟨hu3, rfl⟩
  have HU3 := Lib.hid (HU2.out.trans (hv2.trans hu3))
  have HC3 := Lib.hid (HC2.out.keep ((hv2.trans hu3).kept _))
  clear hu3 hv2 hI2 HU2 HC2 HT2
  rw [score3, par3]
  go_wp2_with fail
  refine (three_t w3).mono ?_
  rintro e w4 ⟨hu4, v4, rfl, hT⟩
  have HU4 := Lib.hid (HU3.out.trans hu4)
  have HC4 := Lib.hid (HC3.out.keep (hu4.kept _))
  have HT4 := Lib.hid hT
  clear hu4 hT HU3 HC3
  go_wp2_with fail
  have hI4 := lit_ints w4 #[.int .i64 0, .int .i64 1, .int .i64 1] 3 s3 rfl 3 rfl
  have hv4 := Up.alloc w4 (.cells #[.int .i64 0, .int .i64 1, .int .i64 1] 3)
  refine (assign_t Any _ _ _ _ t3 s3 u2 (HT4.out.keep (hv4.kept _)) hI4 (HC4.out.keep (hv4.kept _)) sized3).mono ?_
  rintro e w5 ⟨hu5, av, rfl, hav⟩
  rw [assign3] at hav
  have HU5 := Lib.hid (HU4.out.trans (hv4.trans hu5))
  have HC5 := Lib.hid (HC4.out.keep ((hv4.trans hu5).kept _))
  have HA5 := Lib.hid hav
  clear hu5 hv4 hI4 HU4 HC4 HT4 hav
  rw [par3]
  go_wp2_with fail
  refine (three_t w5).mono ?_
  rintro e w6 ⟨hu6, v6, rfl, hT⟩
  have HU6 := Lib.hid (HU5.out.trans hu6)
  have HC6 := Lib.hid (HC5.out.keep (hu6.kept _))
  have HA6 := Lib.hid (IntsAt.keep HA5.out (hu6.kept _))
  have HT6 := Lib.hid hT
  clear hu6 hT HU5 HC5 HA5
  go_wp2_with fail
  have hI6 := lit_ints w6 #[.int .i64 0, .int .i64 1, .int .i64 1] 3 s3 rfl 3 rfl
  have hv6 := Up.alloc w6 (.cells #[.int .i64 0, .int .i64 1, .int .i64 1] 3)
  refine (ptable_t Any _ _ _ _ t3 s3 u2 (HT6.out.keep (hv6.kept _)) hI6 (HC6.out.keep (hv6.kept _)) sized3).mono ?_
  rintro e w7 ⟨hu7, tv, rfl, htv⟩
  rw [table3] at htv
  have HU7 := Lib.hid (HU6.out.trans (hv6.trans hu7))
  have HA7 := Lib.hid (IntsAt.keep HA6.out ((hv6.trans hu7).kept _))
  obtain ⟨tp, tc, rfl, _, _⟩ := rows_open htv
  have HT7 := Lib.hid htv
  clear hu7 hv6 hI6 HU6 HC6 HT6 HA6 htv
  rw [par3]
  have hv7 := Up.alloc w7 (.cells #[.int .i64 1, .int .i64 1, .int .i64 0, .int .i64 1, .int .i64 1] 3)
  have HE1 := Lib.hid (equal_yes _ _ _ _ _ _ _ (IntsAt.keep HA7.out (hv7.kept _)) (lit_ints w7 #[.int .i64 1, .int .i64 1, .int .i64 0, .int .i64 1, .int .i64 1] 3 [1, 1, 0, 1, 1] rfl 5 rfl) (by decide) (by decide) rfl)
  have HU8 := Lib.hid (HU7.out.trans hv7)
  have HT8 := Lib.hid (HT7.out.keep (hv7.kept _))
  clear hv7 HA7 HU7 HT7
  go_wp2_with fail
  generalize w7.alloc (.cells #[.int .i64 1, .int .i64 1, .int .i64 0, .int .i64 1, .int .i64 1] 3) = w8 at *
  refine HE1.out.mono ?_
  rintro e w9 ⟨rfl, n9, rfl⟩
  have hv8 := Up.drewN w8 n9
  have HU9 := Lib.hid (HU8.out.trans hv8)
  have HT9 := Lib.hid (HT8.out.keep (hv8.kept _))
  obtain ⟨tb, tof, tq, tcc, rfl, hcell, hrow⟩ := rows_get HT9.out (k := 0) (by decide)
  rw [Nat.add_zero] at hcell
  have hv9 := Up.alloc (w8.drewN n9) (.cells #[.int .i64 2, .int .i64 1] 3)
  have HE2 := Lib.hid (equal_yes _ _ _ _ _ _ _ (IntsAt.keep hrow (hv9.kept _)) (lit_ints (w8.drewN n9) #[.int .i64 2, .int .i64 1] 3 [2, 1] rfl 2 rfl) (by decide) (by decide) rfl)
  have HU10 := Lib.hid (HU9.out.trans hv9)
  clear hv8 hv9 hrow HU8 HT8 HU9 HT9 HE1
  go_wp2_with fail
  generalize (w8.drewN n9).alloc (.cells #[.int .i64 2, .int .i64 1] 3) = w10 at *
  refine HE2.out.mono ?_
  rintro e w11 ⟨rfl, n11, rfl⟩
  have HU11 := Lib.hid (HU10.out.trans (Up.drewN w10 n11))
  clear HE2 HU10
  go_wp2_with fail
  go_ret
  exact ⟨rfl, HU11.out⟩
end Go.Proofs.Ytcaialhoclodjaa
namespace Go.Proofs.Ytcaialhoclodjaa
open Go.RowKit Go.Deep
deriving instance DecidableEq for Grp
end Go.Proofs.Ytcaialhoclodjaa
namespace Go.Proofs.Ytcaialhoclodjaa
open Go.RowKit Go.Deep
end Go.Proofs.Ytcaialhoclodjaa
namespace Go.Proofs.Ytcaialhoclodjaa
open Go.RowKit Go.Deep
end Go.Proofs.Ytcaialhoclodjaa
namespace Go.Proofs.Ytcaialhoclodjaa
open Go.RowKit Go.Deep
end Go.Proofs.Ytcaialhoclodjaa
namespace Go.Proofs.Ytcaialhoclodjaa
open Go.RowKit Go.Deep
end Go.Proofs.Ytcaialhoclodjaa
