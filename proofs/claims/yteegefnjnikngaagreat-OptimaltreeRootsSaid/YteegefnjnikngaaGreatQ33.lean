/- The parts of the rerooted tree, plain: which sets of leaves they have. The turns of .. -/
import Derived.Test.YteegefnjnikngaaGreatQ1
import Derived.Test.YteegefnjnikngaaGreatQ31
import Derived.Test.YteegefnjnikngaaGreatQ30
import Derived.Test.YteegefnjnikngaaGreatQ13
import Derived.Test.YteegefnjnikngaaGreatQ29
import Derived.Test.YteegefnjnikngaaGreatQ17
set_option maxRecDepth 100000
namespace Go.Proofs.YteegefnjnikngaaGreat
section
def pX (r : RT) (X : ByteArray → Prop) : Prop := ∃ s ∈ subR r, ∀ x, X x ↔ x ∈ bu s
def CoR (r : RT) (X : ByteArray → Prop) : Prop := ∃ s ∈ subR r, ∀ x, X x ↔ x ∈ bu r ∧ x ∉ bu s
def Tj (r : RT) (a : ByteArray) (X : ByteArray → Prop) : Prop := (∀ x, X x ↔ x ∈ bu r) ∨ (∀ x, X x ↔ x = a) ∨ (¬ X a ∧ (∃ x, X x) ∧ (pX r X ∨ CoR r X))
theorem CI {F : aP} {n : Nat} {rk : Nat → Nat} (h : Wf F n rk) {z : Nat} (hz : z < n) {x : ByteArray} : x ∈ bu (aG F rk z) ↔ ∃ j, j < n ∧ aM F rk z j = true ∧ (F.nm j).size ≠ 0 ∧ x = F.nm j := by
 unfold bu
 rw [Jd h hz, List.mem_filter, List.mem_map]
 constructor
 ·rintro ⟨⟨j, hj, rfl⟩, h0⟩
  have hs := (bX h hz (Nat.le_refl _)).1 hj
  exact ⟨j, iM h hz (Nat.le_refl _) hs, hs, of_decide_eq_true h0, rfl⟩
 ·rintro ⟨j, _, hs, h0, rfl⟩
  exact ⟨⟨j, (bX h hz (Nat.le_refl _)).2 hs, rfl⟩, decide_eq_true h0⟩
theorem Vf {F : aP} {n : Nat} {rk : Nat → Nat} {P : Nat → Bool} (h : Wf F n rk) : ∀ (d z : Nat), rk z ≤ d → z < n → al F P rk z = true → ∃ j, j < n ∧ aM F rk z j = true ∧ F.kids j = [] ∧ P j = true
 | d, z, hd, hz, ha => by
  rw [jx h hz] at ha
  by_cases h0 : F.kids z = []
  ·rw [if_pos h0] at ha
   exact ⟨z, hz, aN h hz, h0, ha⟩
  ·rw [if_neg h0] at ha
   obtain ⟨k, hk, hka⟩ := List.any_eq_true.1 ha
   have hkk := h.kid z hz k hk
   cases d with
   | zero => omega
   | succ d =>
    obtain ⟨j, h1, h2, h3, h4⟩ := Vf h d k (by omega) hkk.1 hka
    exact ⟨j, h1, bz h hz hk h2, h3, h4⟩
section
variable {t : ax} {leaf : Nat}
theorem vH (h : az t = 0) {z : Nat} (hz : z < t.ps.length) {x : ByteArray} : x ∈ bu (aG (dy t) (bY t) z) ↔ ∃ j, j < t.ps.length ∧ eY t.ps z j = true ∧ (gs t.ns j).size ≠ 0 ∧ x = gs t.ns j := by
 rw [CI (cK h).wf hz]
 constructor
 ·rintro ⟨j, hj, hs, h0, e⟩
  exact ⟨j, hj, by rw [← vC h _ z j (Nat.le_refl _) hz hj]; exact hs, h0, e⟩
 ·rintro ⟨j, hj, hs, h0, e⟩
  exact ⟨j, hj, by rw [vC h _ z j (Nat.le_refl _) hz hj]; exact hs, h0, e⟩
theorem LY (h : az t = 0) {X : ByteArray → Prop} : pX (dU t) X ↔ ∃ z, z < t.ps.length ∧ ∀ x, X x ↔ ∃ j, j < t.ps.length ∧ eY t.ps z j = true ∧ (gs t.ns j).size ≠ 0 ∧ x = gs t.ns j := by
 unfold pX
 rw [pH h]
 constructor
 ·rintro ⟨s, hs, hx⟩
  obtain ⟨z, hz, rfl⟩ := List.mem_map.1 hs
  have hz := fG h hz
  exact ⟨z, hz, fun x => (hx x).trans (vH h hz)⟩
 ·rintro ⟨z, hz, hx⟩
  exact ⟨_, List.mem_map_of_mem ((wW h).mem_iff.2 (List.mem_range.2 hz)), fun x => (hx x).trans (vH h hz).symm⟩
theorem lB (h : az t = 0) {x : ByteArray} : x ∈ bu (dU t) ↔ ∃ j, j < t.ps.length ∧ (gs t.ns j).size ≠ 0 ∧ x = gs t.ns j := by
 have h0 := (aH h).1
 refine (vH h h0).trans ⟨fun ⟨j, h1, _, h2⟩ => ⟨j, h1, h2⟩, fun ⟨j, h1, h2⟩ => ⟨j, h1, td h j j (Nat.le_refl _) h1, h2⟩⟩
theorem Qp (h : az t = 0) {X : ByteArray → Prop} : CoR (dU t) X ↔ ∃ z, z < t.ps.length ∧ ∀ x, X x ↔ x ∈ bu (dU t) ∧ ¬ ∃ j, j < t.ps.length ∧ eY t.ps z j = true ∧ (gs t.ns j).size ≠ 0 ∧ x = gs t.ns j := by
 unfold CoR
 rw [pH h]
 constructor
 ·rintro ⟨s, hs, hx⟩
  obtain ⟨z, hz, rfl⟩ := List.mem_map.1 hs
  have hz := fG h hz
  exact ⟨z, hz, fun x => by rw [hx x, vH h hz]⟩
 ·rintro ⟨z, hz, hx⟩
  exact ⟨_, List.mem_map_of_mem ((wW h).mem_iff.2 (List.mem_range.2 hz)), fun x => by rw [hx x, vH h hz]⟩
theorem aR.inj (h : aR t leaf) {a b : Nat} (ha : a < t.ps.length) (hb : b < t.ps.length) (h0 : (gs t.ns a).size ≠ 0) (e : gs t.ns a = gs t.ns b) : a = b := by
 have ea : (bI t leaf).nm a = gs t.ns a := upd_ne _ _ (by omega)
 have eb : (bI t leaf).nm b = gs t.ns b := upd_ne _ _ (by omega)
 exact Jo h a b (by omega) (by omega) (by rw [ea]; exact h0) (by rw [ea, eb]; exact e)
theorem gA (h : aR t leaf) : ∀ (d z j : Nat), t.ps.length - z ≤ d → z < t.ps.length → j < t.ps.length + 1 → (cg t leaf z = false ∨ z = leaf) → (aM (bI t leaf) (eM t leaf) z j = true ↔ j < t.ps.length ∧ eY t.ps z j = true)
 | d, z, j, hd, hz, hj, ho => by
  have hw := (fR h).wf
  have LZ : (bI t leaf).kids z = aQ t.ps z := by
   show iA t leaf z = _
   unfold iA
   rw [if_neg (by omega), if_neg]
   rintro ⟨h1, h2⟩
   rcases ho with e | e
   ·rw [e] at h1; cases h1
   ·exact h2 e
  have hoff : ∀ c ∈ aQ t.ps z, cg t leaf c = false := fun c hc => by
   obtain ⟨h1, h2, h3⟩ := bf.1 hc
   cases e : cg t leaf c with
   | false => rfl
   | true =>
    have := h.mH e (by omega) h3
    rcases ho with e2 | e2
    ·rw [e2] at this; cases this
    ·rw [e2, h.CA] at hc; cases hc
  constructor
  ·intro hs
   rcases fE hw (by omega) hs with e | ⟨c, hc, h2⟩
   ·subst e; exact ⟨hz, pJ _⟩
   ·rw [LZ] at hc
    obtain ⟨h1, h3, h4⟩ := bf.1 hc
    cases d with
    | zero => omega
    | succ d =>
     obtain ⟨h5, h6⟩ := (gA h d c j (by omega) h1 hj (.inl (hoff c hc))).1 h2
     exact ⟨h5, (nK h.ok h5).2 (.inr ⟨c, h1, h3, h4, h6⟩)⟩
  ·rintro ⟨h1, h2⟩
   rcases (nK h.ok h1).1 h2 with e | ⟨c, h3, h4, h5, h6⟩
   ·subst e; exact aN hw (by omega)
   ·have hc : c ∈ aQ t.ps z := bf.2 ⟨h3, h4, h5⟩
    cases d with
    | zero => omega
    | succ d => exact bz hw (by omega) (by rw [LZ]; exact hc) ((gA h d c j (by omega) h3 hj (.inl (hoff c hc))).2 ⟨h1, h6⟩)
theorem mW (h : aR t leaf) : ∀ (d z c j : Nat), z ≤ d → z < t.ps.length → j < t.ps.length + 1 → c < t.ps.length → z < c → gi t.ps c = (z : Int) → cg t leaf c = true → (aM (bI t leaf) (eM t leaf) z j = true ↔ j < t.ps.length ∧ eY t.ps c j = false)
 | d, z, c, j, hd, hz, hj, hc, vI, hpc, Aj => by
  have hw := (fR h).wf
  have Fv : cg t leaf z = true := h.mH Aj (by omega) hpc
  have hzl : z ≠ leaf := fun e => by have := h.oD Aj; omega
  have LZ : (bI t leaf).kids z = (aQ t.ps z).filter (fun k => !cg t leaf k) ++ (if z = 0 then [] else [(gi t.ps z).toNat]) := by
   show iA t leaf z = _
   unfold iA
   rw [if_neg (by omega), if_pos ⟨Fv, hzl⟩]
  have hcz : ∀ {j : Nat}, j < t.ps.length → eY t.ps c j = true → eY t.ps z j = true := fun {j} hj hh => (nK h.ok hj).2 (.inr ⟨c, hc, vI, hpc, hh⟩)
  constructor
  ·intro hs
   rcases fE hw (by omega) hs with e | ⟨k, hk, h2⟩
   ·subst e
    refine ⟨hz, ?_⟩
    cases e2 : eY t.ps c j with
    | false => rfl
    | true => have := ou h.ok hz e2; omega
   ·rw [LZ] at hk
    rcases List.mem_append.1 hk with h3 | h3
    ·obtain ⟨h3, h4⟩ := List.mem_filter.1 h3
     obtain ⟨h5, h6, h7⟩ := bf.1 h3
     have h4 : cg t leaf k = false := by simpa using h4
     obtain ⟨h8, h9⟩ := (gA h _ k j (Nat.le_refl _) h5 hj (.inl h4)).1 h2
     refine ⟨h8, ?_⟩
     cases e2 : eY t.ps c j with
     | false => rfl
     | true =>
      exfalso
      have hne : k ≠ c := fun e3 => by rw [e3, Aj] at h4; cases h4
      rcases Nat.lt_or_ge k c with hlt | hge
      ·have h10 := uf h.ok (Nat.le_of_lt hlt) j j (Nat.le_refl _) h8 h9 e2
       rw [jZ h.ok hc hlt, hpc] at h10
       have := ou h.ok (show z < _ by omega) h10
       omega
      ·have h10 := uf h.ok hge j j (Nat.le_refl _) h8 e2 h9
       rw [jZ h.ok h5 (by omega), h7] at h10
       have := ou h.ok (show z < _ by omega) h10
       omega
    ·by_cases h0 : z = 0
     ·rw [if_pos h0] at h3; cases h3
     ·rw [if_neg h0, List.mem_singleton] at h3
      obtain ⟨q, hq1, qX⟩ := h.par hz h0
      have hkq : k = q := by omega
      subst hkq
      cases d with
      | zero => omega
      | succ d =>
       obtain ⟨h4, h5⟩ := (mW h d k z j (by omega) (by omega) hj hz qX hq1 Fv).1 h2
       refine ⟨h4, ?_⟩
       cases e2 : eY t.ps c j with
       | false => rfl
       | true => rw [hcz h4 e2] at h5; cases h5
  ·rintro ⟨h1, h2⟩
   cases e : eY t.ps z j with
   | true =>
    rcases (nK h.ok h1).1 e with e2 | ⟨k, h3, h4, h5, h6⟩
    ·subst e2; exact aN hw (by omega)
    ·have Eo : cg t leaf k = false := by
      cases e3 : cg t leaf k with
      | false => rfl
      | true =>
       have := h.vE e3 Aj h4 vI h5 hpc
       subst this; rw [h6] at h2; cases h2
     exact bz hw (by omega) (by rw [LZ]; exact List.mem_append_left _ (List.mem_filter.2 ⟨bf.2 ⟨h3, h4, h5⟩, by simp [Eo]⟩)) ((gA h _ k j (Nat.le_refl _) h3 hj (.inl Eo)).2 ⟨h1, h6⟩)
   | false =>
    by_cases h0 : z = 0
    ·subst h0; rw [td h.te j j (Nat.le_refl _) h1] at e; cases e
    ·obtain ⟨q, hq1, qX⟩ := h.par hz h0
     cases d with
     | zero => omega
     | succ d => exact bz hw (by omega) (by rw [LZ, if_neg h0]; exact List.mem_append_right _ (by simp; omega)) ((mW h d q z j (by omega) (by omega) hj hz qX hq1 Fv).2 ⟨h1, e⟩)
theorem L3 (h : aR t leaf) {z : Nat} (hz : z < t.ps.length + 1) {x : ByteArray} :
  x ∈ bu (aG ((bI t leaf).sub (eM t leaf) (gY (bI t leaf) (xM t leaf) (eM t leaf)) t.ps.length) (eM t leaf) z) ↔ ∃ j, j < t.ps.length ∧ aM (bI t leaf) (eM t leaf) z j = true ∧ (gs t.ns j).size ≠ 0 ∧ x = gs t.ns j := by
 have hw := (fR h).wf
 have hn : t.ps.length < t.ps.length + 1 := Nat.lt_succ_self _
 rw [CI (jy hw _) hz]
 have hnm : ∀ j, j < t.ps.length → (bI t leaf).nm j = gs t.ns j := fun j hj => upd_ne _ _ (by omega)
 have hne : ∀ j, j < t.ps.length + 1 → ((bI t leaf).nm j).size ≠ 0 → j < t.ps.length := fun j hj h0 => by
  by_cases e : j = t.ps.length
  ·subst e
   exact absurd (show (upd (gs t.ns) _ _ _).size = 0 by rw [upd_same]; rfl) h0
  ·omega
 constructor
 ·rintro ⟨j, hj, hs, h0, e⟩
  have h0 : ((bI t leaf).nm j).size ≠ 0 := h0
  have hjl := hne j hj h0
  have e : x = (bI t leaf).nm j := e
  rw [hnm j hjl] at h0 e
  exact ⟨j, hjl, pR hw _ _ z j (Nat.le_refl _) hz hs, h0, e⟩
 ·rintro ⟨j, hj, hs, h0, e⟩
  have h0' : ((bI t leaf).nm j).size ≠ 0 := by rw [hnm j hj]; exact h0
  have hk : (bI t leaf).kids j = [] := by
   by_cases c : (bI t leaf).kids j = []
   ·exact c
   ·exact absurd (wZ h (by omega) c) h0'
  have ha : al (bI t leaf) (xM t leaf) (eM t leaf) j = true := by
   rw [jx hw (by omega), if_pos hk]; exact decide_eq_true h0'
  exact ⟨j, by omega, (pU hw hn _ z j (Nat.le_refl _) hz (s8 h z hz) hs ha).2, h0', by rw [e]; exact (hnm j hj).symm⟩
theorem WC (h : aR t leaf) {X : ByteArray → Prop} : pX (yV t leaf) X ↔ ∃ z, z < t.ps.length + 1 ∧ (∃ x, X x) ∧ ∀ x, X x ↔ ∃ j, j < t.ps.length ∧ aM (bI t leaf) (eM t leaf) z j = true ∧ (gs t.ns j).size ≠ 0 ∧ x = gs t.ns j := by
 have hw := (fR h).wf
 have hn : t.ps.length < t.ps.length + 1 := Nat.lt_succ_self _
 have hnm : ∀ j, j < t.ps.length → (bI t leaf).nm j = gs t.ns j := fun j hj => upd_ne _ _ (by omega)
 unfold pX yV
 rw [jO (jy hw _) hn (Nat.le_refl _)]
 constructor
 ·rintro ⟨s, hs, hx⟩
  obtain ⟨z, hz, rfl⟩ := List.mem_map.1 hs
  have hsz := (bX (jy hw _) hn (Nat.le_refl _)).1 hz
  have dP := iM (jy hw _) hn (Nat.le_refl _) hsz
  have hx2 : ∀ x, X x ↔ ∃ j, j < t.ps.length ∧ aM (bI t leaf) (eM t leaf) z j = true ∧ (gs t.ns j).size ≠ 0 ∧ x = gs t.ns j := fun x => (hx x).trans (L3 h dP)
  refine ⟨z, dP, ?_, hx2⟩
  have ha := Bc hw hn _ _ z (Nat.le_refl _) hn (aN hw hn) (pW h).1 hsz
  obtain ⟨j, h1, h2, h3, h4⟩ := Vf hw _ z (Nat.le_refl _) dP ha
  have h4 : ((bI t leaf).nm j).size ≠ 0 := of_decide_eq_true h4
  have hjl : j < t.ps.length := by
   by_cases e : j = t.ps.length
   ·subst e
    exact absurd (show (upd (gs t.ns) _ _ _).size = 0 by rw [upd_same]; rfl) h4
   ·omega
  rw [hnm j hjl] at h4
  exact ⟨_, (hx2 _).2 ⟨j, hjl, h2, h4, rfl⟩⟩
 ·rintro ⟨z, hz, ⟨x0, h0⟩, hx⟩
  refine ⟨_, List.mem_map_of_mem ((bX (jy hw _) hn (Nat.le_refl _)).2 ?_), fun x => (hx x).trans (L3 h hz).symm⟩
  obtain ⟨j, h1, h2, h3, h4⟩ := (hx x0).1 h0
  have h3' : ((bI t leaf).nm j).size ≠ 0 := by rw [hnm j h1]; exact h3
  have hk : (bI t leaf).kids j = [] := by
   by_cases c : (bI t leaf).kids j = []
   ·exact c
   ·exact absurd (wZ h (by omega) c) h3'
  have ha : al (bI t leaf) (xM t leaf) (eM t leaf) j = true := by
   rw [jx hw (by omega), if_pos hk]; exact decide_eq_true h3'
  have haz := (pU hw hn _ z j (Nat.le_refl _) hz (s8 h z hz) h2 ha).1
  exact (pU hw hn _ t.ps.length z (Nat.le_refl _) hn (aN hw hn) (s8 h z hz) haz).2
theorem rr_fam (h : aR t leaf) {X : ByteArray → Prop} : pX (yV t leaf) X ↔ Tj (dU t) (gs t.ns leaf) X := by
 have hlt := h.lt
 have hinj : ∀ {a b : Nat}, a < t.ps.length → b < t.ps.length → (gs t.ns a).size ≠ 0 → gs t.ns a = gs t.ns b → a = b := fun ha hb h0 e => h.inj ha hb h0 e
 have Vg : ∀ {j : Nat}, j < t.ps.length → eY t.ps leaf j = true → j = leaf := fun {j} hj hh => by
  rcases (nK h.ok hj).1 hh with e | ⟨c, h1, h2, h3, _⟩
  ·exact e
  ·have : c ∈ aQ t.ps leaf := bf.2 ⟨h1, h2, h3⟩
   rw [h.CA] at this; cases this
 rw [WC h]
 constructor
 ·rintro ⟨z, hz, hne, hx⟩
  by_cases hr : z = t.ps.length
  ·left
   intro x
   rw [hx x, lB h.te]
   subst hr
   exact ⟨fun ⟨j, h1, _, h2⟩ => ⟨j, h1, h2⟩, fun ⟨j, h1, h2⟩ => ⟨j, h1, s8 h j (by omega), h2⟩⟩
  have hzl : z < t.ps.length := by omega
  right
  by_cases hl : z = leaf
  ·left
   intro x
   rw [hx x]
   constructor
   ·rintro ⟨j, h1, h2, _, h4⟩
    have := Vg h1 (by rw [← hl]; exact ((gA h _ z j (Nat.le_refl _) hzl (by omega) (.inr hl)).1 h2).2)
    rw [h4, this]
   ·intro e
    exact ⟨leaf, hlt, by rw [hl]; exact aN (fR h).wf (by omega), h.nm, e⟩
  right
  refine ⟨?_, hne, ?_⟩
  ·intro ha
   obtain ⟨j, h1, h2, h3, h4⟩ := (hx _).1 ha
   have hj : leaf = j := hinj hlt h1 h.nm h4
   subst hj
   cases ho : cg t leaf z with
   | false =>
    have := ((gA h _ z leaf (Nat.le_refl _) hzl (by omega) (.inl ho)).1 h2).2
    unfold cg at ho
    rw [this] at ho; cases ho
   | true =>
    obtain ⟨c, c1, c2, c3, c4⟩ := h.yS ho hl
    have := ((mW h _ z c leaf (Nat.le_refl _) hzl (by omega) c1 c2 c3 c4).1 h2).2
    unfold cg at c4
    rw [this] at c4; cases c4
  ·cases ho : cg t leaf z with
   | false =>
    left
    rw [LY h.te]
    refine ⟨z, hzl, fun x => (hx x).trans ?_⟩
    constructor
    ·rintro ⟨j, h1, h2, h3⟩
     exact ⟨j, h1, ((gA h _ z j (Nat.le_refl _) hzl (by omega) (.inl ho)).1 h2).2, h3⟩
    ·rintro ⟨j, h1, h2, h3⟩
     exact ⟨j, h1, (gA h _ z j (Nat.le_refl _) hzl (by omega) (.inl ho)).2 ⟨h1, h2⟩, h3⟩
   | true =>
    right
    obtain ⟨c, c1, c2, c3, c4⟩ := h.yS ho hl
    rw [Qp h.te]
    refine ⟨c, c1, fun x => (hx x).trans ?_⟩
    rw [lB h.te]
    constructor
    ·rintro ⟨j, h1, h2, h3, h4⟩
     refine ⟨⟨j, h1, h3, h4⟩, ?_⟩
     rintro ⟨i, i1, i2, i3, i4⟩
     have : j = i := hinj h1 i1 h3 (by rw [← h4, i4])
     subst this
     have := ((mW h _ z c j (Nat.le_refl _) hzl (by omega) c1 c2 c3 c4).1 h2).2
     rw [this] at i2; cases i2
    ·rintro ⟨⟨j, h1, h3, h4⟩, hn⟩
     refine ⟨j, h1, (mW h _ z c j (Nat.le_refl _) hzl (by omega) c1 c2 c3 c4).2 ⟨h1, ?_⟩, h3, h4⟩
     cases e : eY t.ps c j with
     | false => rfl
     | true => exact absurd ⟨j, h1, e, h3, h4⟩ hn
 ·rintro (hx | hx | ⟨hna, hne, hx | hx⟩)
  ·refine ⟨t.ps.length, Nat.lt_succ_self _, ⟨_, (hx _).2 ((lB h.te).2 ⟨leaf, hlt, h.nm, rfl⟩)⟩, fun x => ?_⟩
   rw [hx x, lB h.te]
   exact ⟨fun ⟨j, h1, h2⟩ => ⟨j, h1, s8 h j (by omega), h2⟩, fun ⟨j, h1, _, h2⟩ => ⟨j, h1, h2⟩⟩
  ·refine ⟨leaf, by omega, ⟨_, (hx _).2 rfl⟩, fun x => (hx x).trans ?_⟩
   constructor
   ·intro e
    exact ⟨leaf, hlt, aN (fR h).wf (by omega), h.nm, e⟩
   ·rintro ⟨j, h1, h2, _, h4⟩
    have := Vg h1 ((gA h _ leaf j (Nat.le_refl _) hlt (by omega) (.inr rfl)).1 h2).2
    rw [h4, this]
  ·rw [LY h.te] at hx
   obtain ⟨z, hz, hx⟩ := hx
   have ho : cg t leaf z = false := by
    cases ho : cg t leaf z with
    | false => rfl
    | true => exact absurd ((hx _).2 ⟨leaf, hlt, ho, h.nm, rfl⟩) hna
   refine ⟨z, by omega, hne, fun x => (hx x).trans ?_⟩
   constructor
   ·rintro ⟨j, h1, h2, h3⟩
    exact ⟨j, h1, (gA h _ z j (Nat.le_refl _) hz (by omega) (.inl ho)).2 ⟨h1, h2⟩, h3⟩
   ·rintro ⟨j, h1, h2, h3⟩
    exact ⟨j, h1, ((gA h _ z j (Nat.le_refl _) hz (by omega) (.inl ho)).1 h2).2, h3⟩
  ·rw [Qp h.te] at hx
   obtain ⟨c, hc, hx⟩ := hx
   have Aj : cg t leaf c = true := by
    cases ho : cg t leaf c with
    | true => rfl
    | false =>
     refine absurd ((hx _).2 ⟨(lB h.te).2 ⟨leaf, hlt, h.nm, rfl⟩, ?_⟩) hna
     rintro ⟨j, h1, h2, h3, h4⟩
     have := hinj hlt h1 h.nm h4
     subst this
     unfold cg at ho
     rw [h2] at ho; cases ho
   have hc0 : c ≠ 0 := by
    rintro rfl
    obtain ⟨x, hx0⟩ := hne
    obtain ⟨h1, h2⟩ := (hx x).1 hx0
    obtain ⟨j, h3, h4, h5⟩ := (lB h.te).1 h1
    exact h2 ⟨j, h3, td h.te j j (Nat.le_refl _) h3, h4, h5⟩
   obtain ⟨z, hz1, hz2⟩ := h.par hc hc0
   refine ⟨z, by omega, hne, fun x => (hx x).trans ?_⟩
   rw [lB h.te]
   constructor
   ·rintro ⟨⟨j, h1, h3, h4⟩, hn⟩
    refine ⟨j, h1, (mW h _ z c j (Nat.le_refl _) (by omega) (by omega) hc hz2 hz1 Aj).2 ⟨h1, ?_⟩, h3, h4⟩
    cases e : eY t.ps c j with
    | false => rfl
    | true => exact absurd ⟨j, h1, e, h3, h4⟩ hn
   ·rintro ⟨j, h1, h2, h3, h4⟩
    refine ⟨⟨j, h1, h3, h4⟩, ?_⟩
    rintro ⟨i, i1, i2, i3, i4⟩
    have : j = i := hinj h1 i1 h3 (by rw [← h4, i4])
    subst this
    have := ((mW h _ z c j (Nat.le_refl _) (by omega) (by omega) hc hz2 hz1 Aj).1 h2).2
    rw [this] at i2; cases i2
end
end
section
open Go.RowKit Go.Deep
structure cm (g n : Nat) (A : Nat → Nat) (kv : Nat → Value) (F : aP) (w3 wr : World) (fb : Nat) (f : Int) : Prop where
 fr : aS (g + 1) n A kv F wr
 box : wr.heap[fb]? = some (.cells #[.int .i64 f] 3 (0, 0))
 lo : g < fb
 lD : ∀ j, j < n → A j ≠ fb
 ki : ∀ j, j < n → (kv j).ownBlock ≠ some fb
 up : Below (g + 1) w3 wr
section
variable {g n fb : Nat} {A : Nat → Nat} {kv : Nat → Value} {F : aP} {w3 wr w' : World} {f : Int}
theorem cm.fbl (h : cm g n A kv F w3 wr fb f) : fb < wr.heap.size := (Array.getElem?_eq_some_iff.1 h.box).1
theorem cm.cell (h : cm g n A kv F w3 wr fb f) : wr.cell? ⟨fb, 0, none⟩ = some (.int .i64 f) := by simp [World.cell?, h.box]
theorem cm.size (h : cm g n A kv F w3 wr fb f) : g + 1 ≤ wr.heap.size := by have := h.lo; have := h.fbl; omega
theorem cm.grown (h : cm g n A kv F w3 wr fb f) {x : Nat} (hx : x < n) {row : Option Nat} (hr : row = (kv x).ownBlock) (hw : wr.grownBy w' row) :
  w'.heap[fb]? = some (.cells #[.int .i64 f] 3 (0, 0)) ∧ (∀ j, j < n → w'.heap[A j]? = wr.heap[A j]?) ∧ Below (g + 1) w3 w' := by
 subst hr
 exact ⟨by rw [hw.block fb h.fbl fun e => h.ki x hx e.symm]; exact h.box, fun j hj => hw.block _ (h.fr.lt hj) fun e => h.fr.apart x j hx hj e.symm, h.up.trans ((h.fr.own x hx).dJ hw h.size)⟩
theorem cm.store (h : cm g n A kv F w3 wr fb f) {x : Nat} (hx : x < n) {row : Option Nat} (hr : row = (kv x).ownBlock) (hw : wr.grownBy w' row) :
  w'.cell? ⟨A x, 1, none⟩ = some (kv x) ∧ w'.frozen? ⟨A x, 1, none⟩ = false := by
 have h1 := (h.grown hx hr hw).2.1 x hx
 constructor
 ·simp only [World.cell?, h1]; exact h.fr.je hx
 ·simp only [World.frozen?, h1]; exact h.fr.thaw hx 1
theorem cm.del (h : cm g n A kv F w3 wr fb f) {x b m cap : Nat} {ks : List Nat} (hx : x < n) (hg : (kv x).ownBlock = some b) (hw : wr.grownBy w' (some b)) (hv : aA (g + 1) 124 w' (.slice (some ⟨b, 0, none⟩) m cap) (ks.map (aL A))) (hks : ∀ j ∈ ks, j < n) :
  cm g n A (upd kv x (.slice (some ⟨b, 0, none⟩) m cap)) { F with kids := upd F.kids x ks } w3 (w'.setCell ⟨A x, 1, none⟩ (.slice (some ⟨b, 0, none⟩) m cap)) fb f := by
 obtain ⟨h1, h2, h3⟩ := h.grown hx hg.symm hw
 refine ⟨h.fr.del hx hg hw hv hks, ?_, h.lo, h.lD, fun j hj => ?_, h3.setCell (p := ⟨A x, 1, none⟩) (h.fr.lo x hx) _⟩
 ·rw [blk_setCell_other _ _ _ _ (fun e => h.lD x hx e.symm)]; exact h1
 ·by_cases e : j = x
  ·subst e; rw [upd_same]; intro e2; exact h.ki j hj (hg.trans e2)
  ·rw [upd_ne _ _ e]; exact h.ki j hj
theorem cm.push (h : cm g n A kv F w3 wr fb f) {k c : Nat} (hk : k < n) (hc : c < n) {b m cap : Nat} (hv : aA (g + 1) 124 w' (.slice (some ⟨b, 0, none⟩) m cap) ((F.kids k).map (aL A) ++ [aL A c])) (hg : wr.grownBy w' (kv k).ownBlock)
  (hb : (kv k).ownBlock = some b ∨ wr.heap.size ≤ b) : cm g n A (upd kv k (.slice (some ⟨b, 0, none⟩) m cap)) { F with kids := upd F.kids k (F.kids k ++ [c]) } w3 (w'.setCell ⟨A k, 1, none⟩ (.slice (some ⟨b, 0, none⟩) m cap)) fb f := by
 obtain ⟨h1, h2, h3⟩ := h.grown hk rfl hg
 refine ⟨h.fr.push hk hc (by rw [List.map_append]; exact hv) hg (fun b2 hb2 => by cases hb2; exact hb), ?_, h.lo, h.lD, fun j hj => ?_, h3.setCell (p := ⟨A k, 1, none⟩) (h.fr.lo k hk) _⟩
 ·rw [blk_setCell_other _ _ _ _ (fun e => h.lD k hk e.symm)]; exact h1
 ·by_cases e : j = k
  ·subst e; rw [upd_same]
   intro e2
   have e2 : b = fb := by cases e2; rfl
   rcases hb with h4 | h4
   ·exact h.ki j hj (by rw [h4, e2])
   ·have := h.fbl; omega
  ·rw [upd_ne _ _ e]; exact h.ki j hj
theorem cm.rebox (h : cm g n A kv F w3 wr fb f) (f' : Int) :
  cm g n A kv F w3 (wr.alloc (.cells #[.int .i64 f'] 3)) wr.heap.size f' := by
 have hs := h.size
 have hA : ∀ j, j < n → A j ≠ wr.heap.size := fun j hj e => by have := h.fr.lt hj; omega
 have hK : ∀ j, j < n → (kv j).ownBlock ≠ some wr.heap.size := fun j hj e => by have := (h.fr.ep hj e).2; omega
 exact ⟨h.fr.up (Up.alloc _ _), blk_alloc_new _ _, by omega, hA, hK, h.up.alloc (by omega) _⟩
theorem cm.drew (h : cm g n A kv F w3 wr fb f) : cm g n A kv F w3 wr.drew fb f :=
 ⟨h.fr.up (Up.drewN wr 1), h.box, h.lo, h.lD, h.ki, h.up.trans ((Up.drewN wr 1 : Up wr wr.drew).mono h.size)⟩
theorem cm.congr (h : cm g n A kv F w3 wr fb f) {G : aP} (e : ∀ j, j < n → G.nm j = F.nm j ∧ G.old j = F.old j ∧ G.kids j = F.kids j) : cm g n A kv G w3 wr fb f :=
 ⟨h.fr.ox e, h.box, h.lo, h.lD, h.ki, h.up⟩
theorem Nt (hF : aS (g + 1) n A kv F w3) (hg : g < w3.heap.size) {l : Nat} (hl : l < n) (nm : ByteArray) (old : Int) (f : Int) :
  cm g (n + 1) (upd A n (w3.heap.size + 1)) (upd kv n (.slice (some ⟨w3.heap.size, 0, none⟩) 1 1)) ⟨upd F.nm n nm, upd F.old n old, upd F.kids n [l]⟩ w3
   (((w3.alloc (.cells #[aL A l] 124)).alloc (.cells #[.string nm, .slice (some ⟨w3.heap.size, 0, none⟩) 1 1, .int .i64 old] 127)).alloc (.cells #[.int .i64 f] 3)).drew (w3.heap.size + 1 + 1) f := by
 have hu := Up.alloc w3 (.cells #[aL A l] 124)
 have hs1 : (w3.alloc (.cells #[aL A l] 124)).heap.size = w3.heap.size + 1 := World.size_alloc _ _
 have hown : aA (g + 1) 124 (w3.alloc (.cells #[aL A l] 124)) (.slice (some ⟨w3.heap.size, 0, none⟩) 1 1) ([l].map (aL A)) :=
  ⟨rfl, .inr ⟨w3.heap.size, 1, #[aL A l], rfl, by omega, blk_alloc_new _ _, ⟨by simp, by unfold maxLen; omega, rfl, rfl⟩⟩⟩
 have GJ : ∀ b, (Value.slice (some ⟨w3.heap.size, 0, none⟩) 1 1).ownBlock = some b → b = w3.heap.size := fun b hb => by
  have hb : some w3.heap.size = some b := hb
  injection hb with hb; exact hb.symm
 have h1 := (hF.up hu).Qh (by rw [hs1]; omega) (v := .slice (some ⟨w3.heap.size, 0, none⟩) 1 1) (ks := [l]) nm old hown
  (fun b hb i hi e => by have := GJ b hb; have := hF.lt hi; omega) (fun b hb i hi e => by have := GJ b hb; have := (hF.ep hi e).2; omega) (by simpa using hl)
 rw [hs1] at h1
 have hs2 : ((w3.alloc (.cells #[aL A l] 124)).alloc (.cells #[.string nm, .slice (some ⟨w3.heap.size, 0, none⟩) 1 1, .int .i64 old] 127)).heap.size = w3.heap.size + 1 + 1 := by rw [World.size_alloc, World.size_alloc]
 have eC : Below (g + 1) w3 ((w3.alloc (.cells #[aL A l] 124)).alloc (.cells #[.string nm, .slice (some ⟨w3.heap.size, 0, none⟩) 1 1, .int .i64 old] 127)) := (hu.trans (Up.alloc _ _)).mono (by omega)
 generalize (w3.alloc (.cells #[aL A l] 124)).alloc (.cells #[.string nm, .slice (some ⟨w3.heap.size, 0, none⟩) 1 1, .int .i64 old] 127) = W at *
 rw [← hs2]
 have hA : ∀ j, j < n + 1 → (upd A n (w3.heap.size + 1)) j ≠ W.heap.size := fun j hj e => by have := h1.lt hj; omega
 have hK : ∀ j, j < n + 1 → ((upd kv n (.slice (some ⟨w3.heap.size, 0, none⟩) 1 1)) j).ownBlock ≠ some W.heap.size := fun j hj e => by have := (h1.ep hj e).2; omega
 have h2 : cm g (n + 1) (upd A n (w3.heap.size + 1)) (upd kv n (.slice (some ⟨w3.heap.size, 0, none⟩) 1 1)) ⟨upd F.nm n nm, upd F.old n old, upd F.kids n [l]⟩ w3 (W.alloc (.cells #[.int .i64 f] 3)) W.heap.size f :=
  ⟨h1.up (Up.alloc _ _), blk_alloc_new _ _, by omega, hA, hK, eC.alloc (by omega) _⟩
 exact h2.drew
end
end
section
open Go.RowKit Go.Deep
section
variable {P : Program} {ops : Array Oper} {rest : List Oper} {o : Oper} {a : Act} {Q : Exit → Act → World → Prop}
theorem tA (W : World) (hgd : o.guard = none) (s x : Operand) (t : TypeId) (ho : o.op = .call { callee := .builtin .append, args := #[s, x], argTypes := #[t, t] })
  (base : Nat) (e : TypeId) (z : Value) (bytes : Nat) (ht : P.underlying t = some (.slice e)) (hinfo : (P.info? e).map (fun i => (i.zero, i.size, i.bytes)) = some (some z, 1, bytes))
  (hz1 : z.cells.size = 1) (nU : bytes ≤ 64) {v : Value} {vs : List Value} (hown : aA base e W v vs) (hs : a.eval s = v) (u : Value) (m : Nat) (hm : W.heap.size = m)
  (hx : a.eval x = .slice (some ⟨m, 0, none⟩) 1 1) (h1 : u.oneCell' = true) (k : Nat) (zX : vs.length = k) (hn : k ≤ 1000000) (hbase : base ≤ W.heap.size)
  (h : ∀ g cap w', aA base e w' (.slice (some ⟨g, 0, none⟩) (k + 1) cap) (vs ++ [u]) → W.grownBy w' v.ownBlock → (v.ownBlock = some g ∨ W.heap.size ≤ g) → wpList P ops Q rest (a.put o.dst (.slice (some ⟨g, 0, none⟩) (k + 1) cap)) w') :
  wpList P ops Q (o :: rest) a (W.alloc (.cells #[u] e)) := by
 subst hm
 exact gX W hgd s x t ho base e z bytes ht hinfo hz1 nU hown hs u hx h1 k zX hn hbase h
end
section
variable {w2 wr wx w' : World} {tb : Nat} {pv nv v : Value} {xs : List ByteArray}
end
section
variable {w3 wr wx w' : World} {d a : Value} {gs : List Eu} {svs : List Value} {xs : List Int}
end
end
end Go.Proofs.YteegefnjnikngaaGreat
