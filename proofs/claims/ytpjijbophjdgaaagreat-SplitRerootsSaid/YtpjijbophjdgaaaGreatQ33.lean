/- The parts of the rerooted tree, plain: which sets of leaves they have. Rerooting twice, plain. The root of a rerooted tree, plain. strings.IndexAny: laid -/
import Derived.Test.YtpjijbophjdgaaaGreatQ23
import Derived.Test.YtpjijbophjdgaaaGreatQ30
import Derived.Test.YtpjijbophjdgaaaGreatQ25
import Derived.Test.YtpjijbophjdgaaaGreatQ27
import Derived.Shelf.SlGeneric
import Derived.Shelf.Strings.IndexAnyAll
import Derived.Ground.NamesProg
import Derived.Ground.Names2Prog
import Derived.Test.YtpjijbophjdgaaaGreatProg
namespace Go.Proofs.YtpjijbophjdgaaaGreat
def FamR (r : RT) (X : ByteArray → Prop) : Prop := ∃ s ∈ subR r, ∀ x, X x ↔ x ∈ leafR s
def CoR (r : RT) (X : ByteArray → Prop) : Prop := ∃ s ∈ subR r, ∀ x, X x ↔ x ∈ leafR r ∧ x ∉ leafR s
def RrtS (r : RT) (a : ByteArray) (X : ByteArray → Prop) : Prop := (∀ x, X x ↔ x ∈ leafR r) ∨ (∀ x, X x ↔ x = a) ∨ (¬ X a ∧ (∃ x, X x) ∧ (FamR r X ∨ CoR r X))
theorem leaf_reach {F : Frs} {n : Nat} {rk : Nat → Nat} (h : Wf F n rk) {z : Nat} (hz : z < n) {x : ByteArray} : x ∈ leafR (toRF F rk z) ↔ ∃ j, j < n ∧ subF F rk z j = true ∧ (F.nm j).size ≠ 0 ∧ x = F.nm j := by
  unfold leafR
  rw [nsR_toRF h hz, List.mem_filter, List.mem_map]
  constructor
  · rintro ⟨⟨j, hj, rfl⟩, h0⟩
    have hs := (mem_nodesF h hz (Nat.le_refl _)).1 hj
    exact ⟨j, subF_lt h hz (Nat.le_refl _) hs, hs, of_decide_eq_true h0, rfl⟩
  · rintro ⟨j, _, hs, h0, rfl⟩
    exact ⟨⟨j, (mem_nodesF h hz (Nat.le_refl _)).2 hs, rfl⟩, decide_eq_true h0⟩
theorem al_ex {F : Frs} {n : Nat} {rk : Nat → Nat} {P : Nat → Bool} (h : Wf F n rk) : ∀ (d z : Nat), rk z ≤ d → z < n → al F P rk z = true → ∃ j, j < n ∧ subF F rk z j = true ∧ F.kids j = [] ∧ P j = true
  | d, z, hd, hz, ha => by
    rw [al_eq h hz] at ha
    by_cases h0 : F.kids z = []
    · rw [if_pos h0] at ha
      exact ⟨z, hz, subF_self h hz, h0, ha⟩
    · rw [if_neg h0] at ha
      obtain ⟨k, hk, hka⟩ := List.any_eq_true.1 ha
      have hkk := h.kid z hz k hk
      cases d with
      | zero => omega
      | succ d =>
        obtain ⟨j, h1, h2, h3, h4⟩ := al_ex h d k (by omega) hkk.1 hka
        exact ⟨j, h1, subF_kid h hz hk h2, h3, h4⟩
section
variable {t : Tre} {leaf : Nat}
theorem und_iff (h : treeErr t = 0) {z : Nat} (hz : z < t.ps.length) {x : ByteArray} : x ∈ leafR (toRF (frT t) (rkT t) z) ↔ ∃ j, j < t.ps.length ∧ hitB t.ps z j = true ∧ (gs t.ns j).size ≠ 0 ∧ x = gs t.ns j := by
  rw [leaf_reach (frT_arb h).wf hz]
  constructor
  · rintro ⟨j, hj, hs, h0, e⟩
    exact ⟨j, hj, by rw [← sub_hit h _ z j (Nat.le_refl _) hz hj]; exact hs, h0, e⟩
  · rintro ⟨j, hj, hs, h0, e⟩
    exact ⟨j, hj, by rw [sub_hit h _ z j (Nat.le_refl _) hz hj]; exact hs, h0, e⟩
theorem fam_toR (h : treeErr t = 0) {X : ByteArray → Prop} : FamR (toR t) X ↔ ∃ z, z < t.ps.length ∧ ∀ x, X x ↔ ∃ j, j < t.ps.length ∧ hitB t.ps z j = true ∧ (gs t.ns j).size ≠ 0 ∧ x = gs t.ns j := by
  unfold FamR
  rw [subR_toR h]
  constructor
  · rintro ⟨s, hs, hx⟩
    obtain ⟨z, hz, rfl⟩ := List.mem_map.1 hs
    have hz := mem_nodes_lt h hz
    exact ⟨z, hz, fun x => (hx x).trans (und_iff h hz)⟩
  · rintro ⟨z, hz, hx⟩
    exact ⟨_, List.mem_map_of_mem ((nodes_perm h).mem_iff.2 (List.mem_range.2 hz)), fun x => (hx x).trans (und_iff h hz).symm⟩
theorem leaf_all (h : treeErr t = 0) {x : ByteArray} : x ∈ leafR (toR t) ↔ ∃ j, j < t.ps.length ∧ (gs t.ns j).size ≠ 0 ∧ x = gs t.ns j := by
  have h0 := (treeErr_zero h).1
  refine (und_iff h h0).trans ⟨fun ⟨j, h1, _, h2⟩ => ⟨j, h1, h2⟩, fun ⟨j, h1, h2⟩ => ⟨j, h1, hit_all0 h j j (Nat.le_refl _) h1, h2⟩⟩
theorem co_toR (h : treeErr t = 0) {X : ByteArray → Prop} : CoR (toR t) X ↔ ∃ z, z < t.ps.length ∧ ∀ x, X x ↔ x ∈ leafR (toR t) ∧ ¬ ∃ j, j < t.ps.length ∧ hitB t.ps z j = true ∧ (gs t.ns j).size ≠ 0 ∧ x = gs t.ns j := by
  unfold CoR
  rw [subR_toR h]
  constructor
  · rintro ⟨s, hs, hx⟩
    obtain ⟨z, hz, rfl⟩ := List.mem_map.1 hs
    have hz := mem_nodes_lt h hz
    exact ⟨z, hz, fun x => by rw [hx x, und_iff h hz]⟩
  · rintro ⟨z, hz, hx⟩
    exact ⟨_, List.mem_map_of_mem ((nodes_perm h).mem_iff.2 (List.mem_range.2 hz)), fun x => by rw [hx x, und_iff h hz]⟩
theorem LeafOk.inj (h : LeafOk t leaf) {a b : Nat} (ha : a < t.ps.length) (hb : b < t.ps.length) (h0 : (gs t.ns a).size ≠ 0) (e : gs t.ns a = gs t.ns b) : a = b := by
  have ea : (rrF t leaf).nm a = gs t.ns a := upd_ne _ _ (by omega)
  have eb : (rrF t leaf).nm b = gs t.ns b := upd_ne _ _ (by omega)
  exact rr_names h a b (by omega) (by omega) (by rw [ea]; exact h0) (by rw [ea, eb]; exact e)
theorem reach_off (h : LeafOk t leaf) : ∀ (d z j : Nat), t.ps.length - z ≤ d → z < t.ps.length → j < t.ps.length + 1 → (onP t leaf z = false ∨ z = leaf) → (subF (rrF t leaf) (rkR t leaf) z j = true ↔ j < t.ps.length ∧ hitB t.ps z j = true)
  | d, z, j, hd, hz, hj, ho => by
    have hw := (rr_arb h).wf
    have hkz : (rrF t leaf).kids z = kidsL t.ps z := by
      show rrQ t leaf z = _
      unfold rrQ
      rw [if_neg (by omega), if_neg]
      rintro ⟨h1, h2⟩
      rcases ho with e | e
      · rw [e] at h1; cases h1
      · exact h2 e
    have hoff : ∀ c ∈ kidsL t.ps z, onP t leaf c = false := fun c hc => by
      obtain ⟨h1, h2, h3⟩ := mem_kidsL.1 hc
      cases e : onP t leaf c with
      | false => rfl
      | true =>
        have := h.on_par e (by omega) h3
        rcases ho with e2 | e2
        · rw [e2] at this; cases this
        · rw [e2, h.nokid] at hc; cases hc
    constructor
    · intro hs
      rcases subF_cases hw (by omega) hs with e | ⟨c, hc, h2⟩
      · subst e; exact ⟨hz, hit_self _⟩
      · rw [hkz] at hc
        obtain ⟨h1, h3, h4⟩ := mem_kidsL.1 hc
        cases d with
        | zero => omega
        | succ d =>
          obtain ⟨h5, h6⟩ := (reach_off h d c j (by omega) h1 hj (.inl (hoff c hc))).1 h2
          exact ⟨h5, (hit_kid h.ok h5).2 (.inr ⟨c, h1, h3, h4, h6⟩)⟩
    · rintro ⟨h1, h2⟩
      rcases (hit_kid h.ok h1).1 h2 with e | ⟨c, h3, h4, h5, h6⟩
      · subst e; exact subF_self hw (by omega)
      · have hc : c ∈ kidsL t.ps z := mem_kidsL.2 ⟨h3, h4, h5⟩
        cases d with
        | zero => omega
        | succ d => exact subF_kid hw (by omega) (by rw [hkz]; exact hc) ((reach_off h d c j (by omega) h3 hj (.inl (hoff c hc))).2 ⟨h1, h6⟩)
theorem reach_on (h : LeafOk t leaf) : ∀ (d z c j : Nat), z ≤ d → z < t.ps.length → j < t.ps.length + 1 → c < t.ps.length → z < c → gi t.ps c = (z : Int) → onP t leaf c = true → (subF (rrF t leaf) (rkR t leaf) z j = true ↔ j < t.ps.length ∧ hitB t.ps c j = false)
  | d, z, c, j, hd, hz, hj, hc, hzc, hpc, hoc => by
    have hw := (rr_arb h).wf
    have hoz : onP t leaf z = true := h.on_par hoc (by omega) hpc
    have hzl : z ≠ leaf := fun e => by have := h.on_le hoc; omega
    have hkz : (rrF t leaf).kids z = (kidsL t.ps z).filter (fun k => !onP t leaf k) ++ (if z = 0 then [] else [(gi t.ps z).toNat]) := by
      show rrQ t leaf z = _
      unfold rrQ
      rw [if_neg (by omega), if_pos ⟨hoz, hzl⟩]
    have hcz : ∀ {j : Nat}, j < t.ps.length → hitB t.ps c j = true → hitB t.ps z j = true := fun {j} hj hh => (hit_kid h.ok hj).2 (.inr ⟨c, hc, hzc, hpc, hh⟩)
    constructor
    · intro hs
      rcases subF_cases hw (by omega) hs with e | ⟨k, hk, h2⟩
      · subst e
        refine ⟨hz, ?_⟩
        cases e2 : hitB t.ps c j with
        | false => rfl
        | true => have := hit_le h.ok hz e2; omega
      · rw [hkz] at hk
        rcases List.mem_append.1 hk with h3 | h3
        · obtain ⟨h3, h4⟩ := List.mem_filter.1 h3
          obtain ⟨h5, h6, h7⟩ := mem_kidsL.1 h3
          have h4 : onP t leaf k = false := by simpa using h4
          obtain ⟨h8, h9⟩ := (reach_off h _ k j (Nat.le_refl _) h5 hj (.inl h4)).1 h2
          refine ⟨h8, ?_⟩
          cases e2 : hitB t.ps c j with
          | false => rfl
          | true =>
            exfalso
            have hne : k ≠ c := fun e3 => by rw [e3, hoc] at h4; cases h4
            rcases Nat.lt_or_ge k c with hlt | hge
            · have h10 := hit_chain h.ok (Nat.le_of_lt hlt) j j (Nat.le_refl _) h8 h9 e2
              rw [hit_step h.ok hc hlt, hpc] at h10
              have := hit_le h.ok (show z < _ by omega) h10
              omega
            · have h10 := hit_chain h.ok hge j j (Nat.le_refl _) h8 e2 h9
              rw [hit_step h.ok h5 (by omega), h7] at h10
              have := hit_le h.ok (show z < _ by omega) h10
              omega
        · by_cases h0 : z = 0
          · rw [if_pos h0] at h3; cases h3
          · rw [if_neg h0, List.mem_singleton] at h3
            obtain ⟨q, hq1, hq2⟩ := h.par hz h0
            have hkq : k = q := by omega
            subst hkq
            cases d with
            | zero => omega
            | succ d =>
              obtain ⟨h4, h5⟩ := (reach_on h d k z j (by omega) (by omega) hj hz hq2 hq1 hoz).1 h2
              refine ⟨h4, ?_⟩
              cases e2 : hitB t.ps c j with
              | false => rfl
              | true => rw [hcz h4 e2] at h5; cases h5
    · rintro ⟨h1, h2⟩
      cases e : hitB t.ps z j with
      | true =>
        rcases (hit_kid h.ok h1).1 e with e2 | ⟨k, h3, h4, h5, h6⟩
        · subst e2; exact subF_self hw (by omega)
        · have hko : onP t leaf k = false := by
            cases e3 : onP t leaf k with
            | false => rfl
            | true =>
              have := h.on_one e3 hoc h4 hzc h5 hpc
              subst this; rw [h6] at h2; cases h2
          exact subF_kid hw (by omega) (by rw [hkz]; exact List.mem_append_left _ (List.mem_filter.2 ⟨mem_kidsL.2 ⟨h3, h4, h5⟩, by simp [hko]⟩)) ((reach_off h _ k j (Nat.le_refl _) h3 hj (.inl hko)).2 ⟨h1, h6⟩)
      | false =>
        by_cases h0 : z = 0
        · subst h0; rw [hit_all0 h.te j j (Nat.le_refl _) h1] at e; cases e
        · obtain ⟨q, hq1, hq2⟩ := h.par hz h0
          cases d with
          | zero => omega
          | succ d => exact subF_kid hw (by omega) (by rw [hkz, if_neg h0]; exact List.mem_append_right _ (by simp; omega)) ((reach_on h d q z j (by omega) (by omega) hj hz hq2 hq1 hoz).2 ⟨h1, e⟩)
theorem rr_part (h : LeafOk t leaf) {z : Nat} (hz : z < t.ps.length + 1) {x : ByteArray} :
    x ∈ leafR (toRF ((rrF t leaf).sub (rkR t leaf) (prQ (rrF t leaf) (rrP t leaf) (rkR t leaf)) t.ps.length) (rkR t leaf) z) ↔ ∃ j, j < t.ps.length ∧ subF (rrF t leaf) (rkR t leaf) z j = true ∧ (gs t.ns j).size ≠ 0 ∧ x = gs t.ns j := by
  have hw := (rr_arb h).wf
  have hn : t.ps.length < t.ps.length + 1 := Nat.lt_succ_self _
  rw [leaf_reach (pr_wf hw _) hz]
  have hnm : ∀ j, j < t.ps.length → (rrF t leaf).nm j = gs t.ns j := fun j hj => upd_ne _ _ (by omega)
  have hne : ∀ j, j < t.ps.length + 1 → ((rrF t leaf).nm j).size ≠ 0 → j < t.ps.length := fun j hj h0 => by
    by_cases e : j = t.ps.length
    · subst e
      exact absurd (show (upd (gs t.ns) _ _ _).size = 0 by rw [upd_same]; rfl) h0
    · omega
  constructor
  · rintro ⟨j, hj, hs, h0, e⟩
    have h0 : ((rrF t leaf).nm j).size ≠ 0 := h0
    have hjl := hne j hj h0
    have e : x = (rrF t leaf).nm j := e
    rw [hnm j hjl] at h0 e
    exact ⟨j, hjl, pr_below hw _ _ z j (Nat.le_refl _) hz hs, h0, e⟩
  · rintro ⟨j, hj, hs, h0, e⟩
    have h0' : ((rrF t leaf).nm j).size ≠ 0 := by rw [hnm j hj]; exact h0
    have hk : (rrF t leaf).kids j = [] := by
      by_cases c : (rrF t leaf).kids j = []
      · exact c
      · exact absurd (rr_inner h (by omega) c) h0'
    have ha : al (rrF t leaf) (rrP t leaf) (rkR t leaf) j = true := by
      rw [al_eq hw (by omega), if_pos hk]; exact decide_eq_true h0'
    exact ⟨j, by omega, (pr_reach hw hn _ z j (Nat.le_refl _) hz (rr_all h z hz) hs ha).2, h0', by rw [e]; exact (hnm j hj).symm⟩
theorem rr_fam0 (h : LeafOk t leaf) {X : ByteArray → Prop} : FamR (rrR t leaf) X ↔ ∃ z, z < t.ps.length + 1 ∧ (∃ x, X x) ∧ ∀ x, X x ↔ ∃ j, j < t.ps.length ∧ subF (rrF t leaf) (rkR t leaf) z j = true ∧ (gs t.ns j).size ≠ 0 ∧ x = gs t.ns j := by
  have hw := (rr_arb h).wf
  have hn : t.ps.length < t.ps.length + 1 := Nat.lt_succ_self _
  have hnm : ∀ j, j < t.ps.length → (rrF t leaf).nm j = gs t.ns j := fun j hj => upd_ne _ _ (by omega)
  unfold FamR rrR
  rw [subR_toRF (pr_wf hw _) hn (Nat.le_refl _)]
  constructor
  · rintro ⟨s, hs, hx⟩
    obtain ⟨z, hz, rfl⟩ := List.mem_map.1 hs
    have hsz := (mem_nodesF (pr_wf hw _) hn (Nat.le_refl _)).1 hz
    have hzn := subF_lt (pr_wf hw _) hn (Nat.le_refl _) hsz
    have hx2 : ∀ x, X x ↔ ∃ j, j < t.ps.length ∧ subF (rrF t leaf) (rkR t leaf) z j = true ∧ (gs t.ns j).size ≠ 0 ∧ x = gs t.ns j := fun x => (hx x).trans (rr_part h hzn)
    refine ⟨z, hzn, ?_, hx2⟩
    have ha := pr_alive hw hn _ _ z (Nat.le_refl _) hn (subF_self hw hn) (rr_facts h).1 hsz
    obtain ⟨j, h1, h2, h3, h4⟩ := al_ex hw _ z (Nat.le_refl _) hzn ha
    have h4 : ((rrF t leaf).nm j).size ≠ 0 := of_decide_eq_true h4
    have hjl : j < t.ps.length := by
      by_cases e : j = t.ps.length
      · subst e
        exact absurd (show (upd (gs t.ns) _ _ _).size = 0 by rw [upd_same]; rfl) h4
      · omega
    rw [hnm j hjl] at h4
    exact ⟨_, (hx2 _).2 ⟨j, hjl, h2, h4, rfl⟩⟩
  · rintro ⟨z, hz, ⟨x0, h0⟩, hx⟩
    refine ⟨_, List.mem_map_of_mem ((mem_nodesF (pr_wf hw _) hn (Nat.le_refl _)).2 ?_), fun x => (hx x).trans (rr_part h hz).symm⟩
    obtain ⟨j, h1, h2, h3, h4⟩ := (hx x0).1 h0
    have h3' : ((rrF t leaf).nm j).size ≠ 0 := by rw [hnm j h1]; exact h3
    have hk : (rrF t leaf).kids j = [] := by
      by_cases c : (rrF t leaf).kids j = []
      · exact c
      · exact absurd (rr_inner h (by omega) c) h3'
    have ha : al (rrF t leaf) (rrP t leaf) (rkR t leaf) j = true := by
      rw [al_eq hw (by omega), if_pos hk]; exact decide_eq_true h3'
    have haz := (pr_reach hw hn _ z j (Nat.le_refl _) hz (rr_all h z hz) h2 ha).1
    exact (pr_reach hw hn _ t.ps.length z (Nat.le_refl _) hn (subF_self hw hn) (rr_all h z hz) haz).2
theorem rr_fam (h : LeafOk t leaf) {X : ByteArray → Prop} : FamR (rrR t leaf) X ↔ RrtS (toR t) (gs t.ns leaf) X := by
  have hlt := h.lt
  have hinj : ∀ {a b : Nat}, a < t.ps.length → b < t.ps.length → (gs t.ns a).size ≠ 0 → gs t.ns a = gs t.ns b → a = b := fun ha hb h0 e => h.inj ha hb h0 e
  have hleaf : ∀ {j : Nat}, j < t.ps.length → hitB t.ps leaf j = true → j = leaf := fun {j} hj hh => by
    rcases (hit_kid h.ok hj).1 hh with e | ⟨c, h1, h2, h3, _⟩
    · exact e
    · have : c ∈ kidsL t.ps leaf := mem_kidsL.2 ⟨h1, h2, h3⟩
      rw [h.nokid] at this; cases this
  rw [rr_fam0 h]
  constructor
  · rintro ⟨z, hz, hne, hx⟩
    by_cases hr : z = t.ps.length
    · left
      intro x
      rw [hx x, leaf_all h.te]
      subst hr
      exact ⟨fun ⟨j, h1, _, h2⟩ => ⟨j, h1, h2⟩, fun ⟨j, h1, h2⟩ => ⟨j, h1, rr_all h j (by omega), h2⟩⟩
    have hzl : z < t.ps.length := by omega
    right
    by_cases hl : z = leaf
    · left
      intro x
      rw [hx x]
      constructor
      · rintro ⟨j, h1, h2, _, h4⟩
        have := hleaf h1 (by rw [← hl]; exact ((reach_off h _ z j (Nat.le_refl _) hzl (by omega) (.inr hl)).1 h2).2)
        rw [h4, this]
      · intro e
        exact ⟨leaf, hlt, by rw [hl]; exact subF_self (rr_arb h).wf (by omega), h.nm, e⟩
    right
    refine ⟨?_, hne, ?_⟩
    · intro ha
      obtain ⟨j, h1, h2, h3, h4⟩ := (hx _).1 ha
      have hj : leaf = j := hinj hlt h1 h.nm h4
      subst hj
      cases ho : onP t leaf z with
      | false =>
        have := ((reach_off h _ z leaf (Nat.le_refl _) hzl (by omega) (.inl ho)).1 h2).2
        unfold onP at ho
        rw [this] at ho; cases ho
      | true =>
        obtain ⟨c, c1, c2, c3, c4⟩ := h.on_kid ho hl
        have := ((reach_on h _ z c leaf (Nat.le_refl _) hzl (by omega) c1 c2 c3 c4).1 h2).2
        unfold onP at c4
        rw [this] at c4; cases c4
    · cases ho : onP t leaf z with
      | false =>
        left
        rw [fam_toR h.te]
        refine ⟨z, hzl, fun x => (hx x).trans ?_⟩
        constructor
        · rintro ⟨j, h1, h2, h3⟩
          exact ⟨j, h1, ((reach_off h _ z j (Nat.le_refl _) hzl (by omega) (.inl ho)).1 h2).2, h3⟩
        · rintro ⟨j, h1, h2, h3⟩
          exact ⟨j, h1, (reach_off h _ z j (Nat.le_refl _) hzl (by omega) (.inl ho)).2 ⟨h1, h2⟩, h3⟩
      | true =>
        right
        obtain ⟨c, c1, c2, c3, c4⟩ := h.on_kid ho hl
        rw [co_toR h.te]
        refine ⟨c, c1, fun x => (hx x).trans ?_⟩
        rw [leaf_all h.te]
        constructor
        · rintro ⟨j, h1, h2, h3, h4⟩
          refine ⟨⟨j, h1, h3, h4⟩, ?_⟩
          rintro ⟨i, i1, i2, i3, i4⟩
          have : j = i := hinj h1 i1 h3 (by rw [← h4, i4])
          subst this
          have := ((reach_on h _ z c j (Nat.le_refl _) hzl (by omega) c1 c2 c3 c4).1 h2).2
          rw [this] at i2; cases i2
        · rintro ⟨⟨j, h1, h3, h4⟩, hn⟩
          refine ⟨j, h1, (reach_on h _ z c j (Nat.le_refl _) hzl (by omega) c1 c2 c3 c4).2 ⟨h1, ?_⟩, h3, h4⟩
          cases e : hitB t.ps c j with
          | false => rfl
          | true => exact absurd ⟨j, h1, e, h3, h4⟩ hn
  · rintro (hx | hx | ⟨hna, hne, hx | hx⟩)
    · refine ⟨t.ps.length, Nat.lt_succ_self _, ⟨_, (hx _).2 ((leaf_all h.te).2 ⟨leaf, hlt, h.nm, rfl⟩)⟩, fun x => ?_⟩
      rw [hx x, leaf_all h.te]
      exact ⟨fun ⟨j, h1, h2⟩ => ⟨j, h1, rr_all h j (by omega), h2⟩, fun ⟨j, h1, _, h2⟩ => ⟨j, h1, h2⟩⟩
    · refine ⟨leaf, by omega, ⟨_, (hx _).2 rfl⟩, fun x => (hx x).trans ?_⟩
      constructor
      · intro e
        exact ⟨leaf, hlt, subF_self (rr_arb h).wf (by omega), h.nm, e⟩
      · rintro ⟨j, h1, h2, _, h4⟩
        have := hleaf h1 ((reach_off h _ leaf j (Nat.le_refl _) hlt (by omega) (.inr rfl)).1 h2).2
        rw [h4, this]
    · rw [fam_toR h.te] at hx
      obtain ⟨z, hz, hx⟩ := hx
      have ho : onP t leaf z = false := by
        cases ho : onP t leaf z with
        | false => rfl
        | true => exact absurd ((hx _).2 ⟨leaf, hlt, ho, h.nm, rfl⟩) hna
      refine ⟨z, by omega, hne, fun x => (hx x).trans ?_⟩
      constructor
      · rintro ⟨j, h1, h2, h3⟩
        exact ⟨j, h1, (reach_off h _ z j (Nat.le_refl _) hz (by omega) (.inl ho)).2 ⟨h1, h2⟩, h3⟩
      · rintro ⟨j, h1, h2, h3⟩
        exact ⟨j, h1, ((reach_off h _ z j (Nat.le_refl _) hz (by omega) (.inl ho)).1 h2).2, h3⟩
    · rw [co_toR h.te] at hx
      obtain ⟨c, hc, hx⟩ := hx
      have hoc : onP t leaf c = true := by
        cases ho : onP t leaf c with
        | true => rfl
        | false =>
          refine absurd ((hx _).2 ⟨(leaf_all h.te).2 ⟨leaf, hlt, h.nm, rfl⟩, ?_⟩) hna
          rintro ⟨j, h1, h2, h3, h4⟩
          have := hinj hlt h1 h.nm h4
          subst this
          unfold onP at ho
          rw [h2] at ho; cases ho
      have hc0 : c ≠ 0 := by
        rintro rfl
        obtain ⟨x, hx0⟩ := hne
        obtain ⟨h1, h2⟩ := (hx x).1 hx0
        obtain ⟨j, h3, h4, h5⟩ := (leaf_all h.te).1 h1
        exact h2 ⟨j, h3, hit_all0 h.te j j (Nat.le_refl _) h3, h4, h5⟩
      obtain ⟨z, hz1, hz2⟩ := h.par hc hc0
      refine ⟨z, by omega, hne, fun x => (hx x).trans ?_⟩
      rw [leaf_all h.te]
      constructor
      · rintro ⟨⟨j, h1, h3, h4⟩, hn⟩
        refine ⟨j, h1, (reach_on h _ z c j (Nat.le_refl _) (by omega) (by omega) hc hz2 hz1 hoc).2 ⟨h1, ?_⟩, h3, h4⟩
        cases e : hitB t.ps c j with
        | false => rfl
        | true => exact absurd ⟨j, h1, e, h3, h4⟩ hn
      · rintro ⟨j, h1, h2, h3, h4⟩
        refine ⟨⟨j, h1, h3, h4⟩, ?_⟩
        rintro ⟨i, i1, i2, i3, i4⟩
        have : j = i := hinj h1 i1 h3 (by rw [← h4, i4])
        subst this
        have := ((reach_on h _ z c j (Nat.le_refl _) (by omega) (by omega) hc hz2 hz1 hoc).1 h2).2
        rw [this] at i2; cases i2
end
end Go.Proofs.YtpjijbophjdgaaaGreat
namespace Go.Proofs.YtpjijbophjdgaaaGreat
theorem fam_sort {r : RT} {X : ByteArray → Prop} : FamR (sortR r) X ↔ FamR r X := by
  constructor
  · rintro ⟨s, hs, hx⟩
    obtain ⟨u, hu, rfl⟩ := List.mem_map.1 ((subR_sort r).mem_iff.1 hs)
    exact ⟨u, hu, fun x => (hx x).trans (leafR_sort u).mem_iff⟩
  · rintro ⟨s, hs, hx⟩
    exact ⟨sortR s, (subR_sort r).mem_iff.2 (List.mem_map_of_mem hs), fun x => (hx x).trans (leafR_sort s).mem_iff.symm⟩
theorem GoodR.sub {r s : RT} (h : GoodR r) (hs : s ∈ subR r) : GoodR s :=
  ⟨fun q hq => h.inn q (subR_trans r hs hq), fun q hq => h.lf q (subR_trans r hs hq), (leafR_sub hs).nodup h.nd⟩
theorem GoodR.contr_leafs {r : RT} (h : GoodR r) : leafR (contrR r) = leafR r := leaf_contr _ r (Nat.le_refl _) h.inn
theorem fam_contr {r : RT} (h : GoodR r) {X : ByteArray → Prop} : FamR (contrR r) X ↔ FamR r X := by
  constructor
  · rintro ⟨s, hs, hx⟩
    obtain ⟨u, hu, h1, rfl⟩ := sub_contr _ r s (Nat.le_refl _) hs
    refine ⟨u, hu, fun x => (hx x).trans ?_⟩
    have e : contrR u = .node u.nm (u.kids.map contrR) := by
      cases u with
      | node nm ks => exact contr_many h1
    rw [← e, (h.sub hu).contr_leafs]
  · rintro ⟨s, hs, hx⟩
    exact ⟨contrR s, contr_sub _ r s (Nat.le_refl _) hs, fun x => by rw [hx x, (h.sub hs).contr_leafs]⟩
theorem fam_eq {r1 r2 : RT} (o1 : OkU r1) (o2 : OkU r2) (h : ∀ X, FamR r1 X ↔ FamR r2 X) : sortR r1 = sortR r2 :=
  uniq_sort _ r1 r2 (Nat.le_refl _) o1 o2 (fun s hs => by
    obtain ⟨u, hu, e⟩ := (h _).1 ⟨s, hs, fun _ => Iff.rfl⟩
    exact ⟨u, hu, e⟩) (fun s hs => by
    obtain ⟨u, hu, e⟩ := (h _).2 ⟨s, hs, fun _ => Iff.rfl⟩
    exact ⟨u, hu, e⟩)
theorem GoodR.single {r : RT} (h : GoodR r) {a : ByteArray} (ha : a ∈ leafR r) : ∃ s ∈ subR r, leafR s = [a] ∧ s = .node a [] := by
  unfold leafR at ha
  obtain ⟨h1, h2⟩ := List.mem_filter.1 ha
  rw [nsR_sub] at h1
  obtain ⟨s, hs, rfl⟩ := List.mem_map.1 h1
  have h2 : s.nm.size ≠ 0 := of_decide_eq_true h2
  have hk : s.kids = [] := by
    by_cases c : s.kids = []
    · exact c
    · exact absurd (h.inn s hs c) h2
  refine ⟨s, hs, ?_⟩
  cases s with
  | node nm ks =>
    have hk : ks = [] := hk
    have h2 : nm.size ≠ 0 := h2
    subst hk
    refine ⟨?_, rfl⟩
    exact leaf_one31 h2
theorem GoodR.meet {r s : RT} (h : GoodR r) (hs : s ∈ subR r) : ∃ x, x ∈ leafR s := by
  obtain ⟨l, hl⟩ := (h.sub hs).head
  exact ⟨firstR s, by rw [hl]; simp⟩
section
variable {r q : RT} {a b : ByteArray}
end
section
variable {t : Tre} {leaf : Nat}
def rrQt (t : Tre) (leaf : Nat) : RT := sortR (contrR (rrR t leaf))
theorem rrQ_fam (h : LeafOk t leaf) (X : ByteArray → Prop) : FamR (rrQt t leaf) X ↔ RrtS (toR t) (gs t.ns leaf) X := by
  unfold rrQt
  rw [fam_sort, fam_contr (rr_facts h).2.1, rr_fam h]
theorem rrQ_good (h : LeafOk t leaf) : GoodR (rrQt t leaf) := (good_contr (rr_facts h).2.1).sort
theorem rr_size (h : LeafOk t leaf) : sizeR (rrR t leaf) ≤ t.ps.length + 1 :=
  good_size (pr_wf (rr_arb h).wf _) (Nat.lt_succ_self _) (rr_facts h).2.1
theorem rrQ_size (h : LeafOk t leaf) : sizeR (rrQt t leaf) ≤ t.ps.length + 1 := by
  unfold rrQt
  rw [sizeR_sort]
  exact Nat.le_trans (size_contr _) (rr_size h)
theorem rrT_flat : rrT t (leaf : Int) = flat (rrQt t leaf) := by unfold rrT rrQt; rw [Int.toNat_natCast]
theorem rr_ok_t (h : LeafOk t leaf) (h63 : t.ps.length ≤ 63) : treeErr (flat (rrQt t leaf)) = 0 ∧ rrCode t leaf = 0 ∧ rrRes t leaf = flat (rrQt t leaf) := by
  have hs := rrQ_size h
  have he : rrErr t leaf = 0 := by
    unfold rrErr
    rw [if_neg (by simp [h.te]), if_neg (by have := h.lt; omega), if_neg (by rw [Int.toNat_natCast]; exact h.nm)]
  have hc : rrCode t leaf = 0 := by
    unfold rrCode
    rw [if_neg (by simp [he]), if_neg]
    rw [rrT_flat, flat_ps]; omega
  refine ⟨treeErr_flat (rrQ_good h) (by omega), hc, ?_⟩
  unfold rrRes
  rw [if_neg (by simp [hc]), rrT_flat]
end
end Go.Proofs.YtpjijbophjdgaaaGreat
namespace Go.Proofs.YtpjijbophjdgaaaGreat
section
variable {t : Tre} {leaf : Nat}
end
end Go.Proofs.YtpjijbophjdgaaaGreat
namespace Go.Proofs
open Go.Shelf
def Tryz.idxA_ren : Go.Shelf.Ren := ⟨fun | 153 => 114 | 152 => 178 | 226 => 179 | 227 => 180 | 228 => 181 | 137 => 208 | 119 => 209 | 224 => 210 | 225 => 211 | 217 => 233 | 266 => 248 | n => n, fun | 9 => 9 | 3 => 3 | 4 => 4 | 5 => 5 | 21 => 21 | 117 => 201 | 116 => 200 | 0 => 0 | 46 => 106 | 124 => 226 | n => n, fun | n => n⟩
theorem Tryz.idxA : Go.Proofs.Lays.n153 Tryz.prog Tryz.idxA_ren := {
  mixed := by kernel_rfl
  f119 := Tryz.func209.trans (congrArg some (by kernel_rfl))
  f137 := Tryz.func208.trans (congrArg some (by kernel_rfl))
  f152 := Tryz.func178.trans (congrArg some (by kernel_rfl))
  f153 := Tryz.func114.trans (congrArg some (by kernel_rfl))
  f217 := Tryz.func233.trans (congrArg some (by kernel_rfl))
  f224 := Tryz.func210.trans (congrArg some (by kernel_rfl))
  f225 := Tryz.func211.trans (congrArg some (by kernel_rfl))
  f226 := Tryz.func179.trans (congrArg some (by kernel_rfl))
  f227 := Tryz.func180.trans (congrArg some (by kernel_rfl))
  f228 := Tryz.func181.trans (congrArg some (by kernel_rfl))
  f266 := Tryz.func248.trans (congrArg some (by kernel_rfl))
  t0 := Tryz.underlying0
  a0 := Tryz.isAgg0
  z0 := Tryz.sizeOf0
  v0 := Tryz.zeroValue0
  t3 := Tryz.underlying3
  a3 := Tryz.isAgg3
  z3 := Tryz.sizeOf3
  v3 := Tryz.zeroValue3
  t4 := Tryz.underlying4
  a4 := Tryz.isAgg4
  z4 := Tryz.sizeOf4
  v4 := Tryz.zeroValue4
  t5 := Tryz.underlying5
  a5 := Tryz.isAgg5
  z5 := Tryz.sizeOf5
  v5 := Tryz.zeroValue5
  t9 := Tryz.underlying9
  a9 := Tryz.isAgg9
  z9 := Tryz.sizeOf9
  v9 := Tryz.zeroValue9
  t21 := Tryz.underlying21
  a21 := Tryz.isAgg21
  z21 := Tryz.sizeOf21
  v21 := Tryz.zeroValue21
  t46 := Tryz.underlying106
  a46 := Tryz.isAgg106
  z46 := Tryz.sizeOf106
  v46 := Tryz.zeroValue106
  t116 := Tryz.underlying200
  a116 := Tryz.isAgg200
  z116 := Tryz.sizeOf200
  t117 := Tryz.underlying201
  a117 := Tryz.isAgg201
  z117 := Tryz.sizeOf201
  v117 := Tryz.zeroValue201
  t124 := Tryz.underlying226
  a124 := Tryz.isAgg226
  z124 := Tryz.sizeOf226
  v124 := Tryz.zeroValue226 }
end Go.Proofs
