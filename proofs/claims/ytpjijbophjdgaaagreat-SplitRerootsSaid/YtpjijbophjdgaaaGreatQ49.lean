/- The tree of the splits of a tree is this tree, rerooted: plain. -/
import Derived.Test.YtpjijbophjdgaaaGreatQ39
import Derived.Test.YtpjijbophjdgaaaGreatQ33
namespace Go.Proofs.YtpjijbophjdgaaaGreat
theorem parts_lam : ∀ (d : Nat) (r : RT), sizeR r ≤ d → GoodR r → ∀ p ∈ subR r, ∀ q ∈ subR r, p ∈ subR q ∨ q ∈ subR p ∨ ∀ x, x ∈ leafR p → x ∉ leafR q
  | 0, r, hd, _ => by have := sizeR_pos r; omega
  | d + 1, .node nm ks, hd, h => fun p hp q hq => by
    rw [subR, List.mem_cons] at hp hq
    rcases hp with rfl | hp
    · exact .inr (.inl (by rw [subR, List.mem_cons]; exact hq))
    rcases hq with rfl | hq
    · exact .inl (by rw [subR, List.mem_cons]; exact .inr hp)
    obtain ⟨k1, h1, hp⟩ := mem_subRs_ex hp
    obtain ⟨k2, h2, hq⟩ := mem_subRs_ex hq
    obtain ⟨i, hi, rfl⟩ := List.getElem_of_mem h1
    obtain ⟨j, hj, rfl⟩ := List.getElem_of_mem h2
    have h0 : ks ≠ [] := fun e => by subst e; simp at hi
    by_cases hij : i = j
    · subst hij
      have hk := mem_kid (nm := nm) (List.getElem_mem hi)
      exact parts_lam d _ (by have := size_kid (nm := nm) (List.getElem_mem hi); omega) (h.sub hk) p hp q hq
    · refine .inr (.inr fun x hx hx2 => ?_)
      have hn := h.nd
      rw [leafR_node (show nm.size = 0 from h.inn _ (subR_self _) h0), List.nodup_iff_pairwise_ne, List.pairwise_flatMap] at hn
      have hpw := List.pairwise_iff_getElem.1 hn.2
      have e1 := (leafR_sub hp).subset hx
      have e2 := (leafR_sub hq).subset hx2
      rcases Nat.lt_trichotomy i j with c | c | c
      · exact absurd rfl (hpw i j hi hj c x e1 x e2)
      · exact hij c
      · exact absurd rfl (hpw j i hj hi c x e2 x e1)
section
variable {names : List ByteArray} {t : Tre} {S : Nat → List Int} {l : List (List Int)} {la : Nat}
theorem lvS_root (h : OfOk t names) {x : Int} : x ∈ lvS t names 0 ↔ 0 ≤ x ∧ x < (names.length : Int) := by
  constructor
  · intro hx; have := mem_lvS.1 hx; exact ⟨this.1, this.2.1⟩
  · rintro ⟨x0, xn⟩
    obtain ⟨b, rfl⟩ := Int.eq_ofNat_of_zero_le x0
    obtain ⟨j, hj, h3, h4⟩ := of_names h (show b < names.length by omega)
    exact mem_lvS.2 ⟨x0, xn, j, hj, hit_rootS h.te j hj, h3, by rw [h4, fd_of h.nd (by omega)]⟩
theorem of_all (h : OfOk t names) {x : ByteArray} : x ∈ leafR (toR t) ↔ ∃ b : Nat, b < names.length ∧ x = gs names b := by
  have h1 := lvS_lv h (treeErr_zero h.te).1 x
  constructor
  · intro hx
    obtain ⟨b, hb, e⟩ := h1.1 hx
    have := (lvS_root h).1 hb
    exact ⟨b, by omega, e⟩
  · rintro ⟨b, hb, e⟩
    exact h1.2 ⟨b, (lvS_root h).2 ⟨by omega, by omega⟩, e⟩
theorem splS_lam {n : Nat} {X Y : List Int} (hX : ∀ x ∈ X, 0 ≤ x ∧ x < (n : Int)) (hY : ∀ x ∈ Y, 0 ≤ x ∧ x < (n : Int)) (h : (∀ x ∈ X, x ∉ Y) ∨ (∀ x ∈ X, x ∈ Y) ∨ ∀ x ∈ Y, x ∈ X) :
    (∀ x ∈ splS n X, x ∉ splS n Y) ∨ (∀ x ∈ splS n X, x ∈ splS n Y) ∨ ∀ x ∈ splS n Y, x ∈ splS n X := by
  by_cases hx : (0 : Int) ∈ X <;> by_cases hy : (0 : Int) ∈ Y
  · rw [show splS n X = complL n X from if_pos (List.contains_iff_mem.2 hx), show splS n Y = complL n Y from if_pos (List.contains_iff_mem.2 hy)]
    simp only [mem_complL]
    rcases h with h | h | h
    · exact absurd hy (h 0 hx)
    · exact .inr (.inr fun x ⟨a, b, c⟩ => ⟨a, b, fun e => c (h x e)⟩)
    · exact .inr (.inl fun x ⟨a, b, c⟩ => ⟨a, b, fun e => c (h x e)⟩)
  · rw [show splS n X = complL n X from if_pos (List.contains_iff_mem.2 hx), show splS n Y = Y from if_neg fun e => hy (List.contains_iff_mem.1 e)]
    simp only [mem_complL]
    rcases h with h | h | h
    · exact .inr (.inr fun x hx => ⟨(hY x hx).1, (hY x hx).2, fun e => h x e hx⟩)
    · exact absurd (h 0 hx) hy
    · exact .inl fun x ⟨a, b, c⟩ e => c (h x e)
  · rw [show splS n Y = complL n Y from if_pos (List.contains_iff_mem.2 hy), show splS n X = X from if_neg fun e => hx (List.contains_iff_mem.1 e)]
    simp only [mem_complL]
    rcases h with h | h | h
    · exact .inr (.inl fun x hx => ⟨(hX x hx).1, (hX x hx).2, fun e => h x hx e⟩)
    · exact .inl fun x hx ⟨a, b, c⟩ => c (h x hx)
    · exact absurd (h 0 hy) hx
  · rw [show splS n Y = Y from if_neg fun e => hy (List.contains_iff_mem.1 e), show splS n X = X from if_neg fun e => hx (List.contains_iff_mem.1 e)]
    exact h
theorem splO_comp (h : OfOk t names) {a b : List Int} (ha : a ∈ splO t names) (hb : b ∈ splO t names) : compB a b = true := by
  obtain ⟨a1, p, hp, X, aX, bX, lX, rfl⟩ := (mem_splO h).1 ha
  obtain ⟨b1, q, hq, Y, aY, bY, lY, rfl⟩ := (mem_splO h).1 hb
  refine (compB_iff a1.set b1.set).2 (splS_lam bX bY ?_)
  have up : ∀ {X Y : List Int} {p q : RT}, (∀ x ∈ X, 0 ≤ x ∧ x < (names.length : Int)) → (∀ x ∈ Y, 0 ≤ x ∧ x < (names.length : Int)) → Lv names p X → Lv names q Y → p ∈ subR q → ∀ x ∈ X, x ∈ Y := fun {X Y p q} bX bY lX lY h2 x hx => by
    obtain ⟨x0, xn⟩ := bX x hx
    obtain ⟨b, rfl⟩ := Int.eq_ofNat_of_zero_le x0
    obtain ⟨b', hb', e⟩ := (lY _).1 ((leafR_sub h2).subset ((lX _).2 ⟨b, hx, rfl⟩))
    have := bY _ hb'
    have := nd_inj h.nd (a := b) (b := b') (by omega) (by omega) e
    rw [this]; exact hb'
  rcases parts_lam _ (toR t) (Nat.le_refl _) (good_toR h.te) p hp q hq with h2 | h2 | h2
  · exact .inr (.inl (up bX bY lX lY h2))
  · exact .inr (.inr (up bY bX lY lX h2))
  · refine .inl fun x hx hy => ?_
    obtain ⟨x0, xn⟩ := bX x hx
    obtain ⟨b, rfl⟩ := Int.eq_ofNat_of_zero_le x0
    exact h2 _ ((lX _).2 ⟨b, hx, rfl⟩) ((lY _).2 ⟨b, hy, rfl⟩)
theorem splO_len (t : Tre) (names : List ByteArray) : (splO t names).length ≤ t.ps.length := by
  unfold splO
  split
  · unfold ordX
    refine Nat.le_trans (cptX_len _) ?_
    rw [(sortX_perm _).length_eq]
    unfold rawO
    refine Nat.le_trans (List.length_filter_le _ _) ?_
    rw [List.length_map]
    refine Nat.le_trans (List.length_filter_le _ _) ?_
    rw [List.length_range]; exact Nat.le_refl _
  · exact Nat.zero_le _
theorem of_bld (h : OfOk t names) : BldOk names (splO t names) := by
  obtain ⟨h0, h64, hl, _, _⟩ := treeErr_zero h.te
  have hgood := good_toR h.te
  refine ⟨?_, h.le, Nat.le_trans (splO_len t names) h64, fun k hk => ?_, h.nd, fun s hs => ((mem_splO h).1 hs).1, fun i k hik hk => splO_comp h (gl_in (by omega)) (gl_in hk)⟩
  · obtain ⟨x, hx⟩ := hgood.meet (subR_self _)
    obtain ⟨b, hb, _⟩ := (of_all h).1 hx
    omega
  · obtain ⟨j, hj, h3, h4⟩ := of_names h hk
    rw [← h4]
    exact tleaf_named h.te hj (LeafOk.nokid ⟨h.te, hj, h3⟩)
def RSf (n : Nat) (l : List (List Int)) (Y : List Int) : Prop :=
  Y = allI n ∨ Y = [0] ∨ ((0 : Int) ∉ Y ∧ Y ≠ [] ∧ (∀ x ∈ Y, 0 ≤ x ∧ x < (n : Int)) ∧ Y.Pairwise (· < ·) ∧ (Y.length = 1 ∨ Y.length + 1 = n ∨ Y ∈ l))
theorem rest_eq {n : Nat} {Y : List Int} (hn : 0 < n) (h0 : (0 : Int) ∉ Y) (hb : ∀ x ∈ Y, 0 ≤ x ∧ x < (n : Int)) (ha : Y.Pairwise (· < ·)) (hl : Y.length + 1 = n) : Y = complL n [0] := by
  have hsub : ∀ x ∈ Y, x ∈ complL n [0] := fun x hx => mem_rest.2 (by
    have := hb x hx
    have : x ≠ 0 := fun e => h0 (by rw [← e]; exact hx)
    omega)
  have hr := rest_len hn
  exact asc_ext ha (memK_asc _ _) fun x => ⟨hsub x, asc_sub_eq ha (memK_asc _ _) hsub (by show Y.length = (complL n [0]).length; omega) x⟩
theorem rr_famY (h : OfOk t names) (hla : LeafOk t la) (e0 : gs t.ns la = gs names 0) (hn : 0 < names.length) (X : ByteArray → Prop) :
    FamR (rrQt t la) X ↔ ∃ Y, RSf names.length (splO t names) Y ∧ ∀ x, X x ↔ ∃ b : Nat, (b : Int) ∈ Y ∧ x = gs names b := by
  rw [rrQ_fam hla, e0]
  have hin : ∀ {Y : List Int} {b : Nat}, (∀ x ∈ Y, 0 ≤ x ∧ x < (names.length : Int)) → b < names.length → (∃ c : Nat, (c : Int) ∈ Y ∧ gs names b = gs names c) → (b : Int) ∈ Y := fun {Y b} hY hb ⟨c, hc, e⟩ => by
    have := hY _ hc
    have := nd_inj h.nd (a := b) (b := c) hb (by omega) e
    rw [this]; exact hc
  have hsingle : ∀ b : Nat, b < names.length → ∃ s ∈ subR (toR t), leafR s = [gs names b] := fun b hb => by
    obtain ⟨s, h1, h2, _⟩ := (good_toR h.te).single ((of_all h).2 ⟨b, hb, rfl⟩)
    exact ⟨s, h1, h2⟩
  -- what a set without the first name gives
  have third : ∀ Y : List Int, (0 : Int) ∉ Y → Y ≠ [] → (∀ x ∈ Y, 0 ≤ x ∧ x < (names.length : Int)) → Y.Pairwise (· < ·) → (∃ q ∈ subR (toR t), ∃ Z, Z.Pairwise (· < ·) ∧ (∀ x ∈ Z, 0 ≤ x ∧ x < (names.length : Int)) ∧ Lv names q Z ∧ Y = splS names.length Z) → RSf names.length (splO t names) Y := fun Y y0 yn yb ya hex => by
    refine .inr (.inr ⟨y0, yn, yb, ya, ?_⟩)
    have hsub : ∀ x ∈ Y, x ∈ complL names.length [0] := fun x hx => mem_rest.2 (by
      have := yb x hx
      have : x ≠ 0 := fun e => y0 (by rw [← e]; exact hx)
      omega)
    have h1 := asc_sub_len ya (memK_asc _ _) hsub
    have h1 : Y.length ≤ (complL names.length [0]).length := h1
    have h2 := rest_len hn
    have h3 : 0 < Y.length := List.length_pos_iff.2 yn
    by_cases c1 : Y.length = 1
    · exact .inl c1
    by_cases c2 : Y.length + 1 = names.length
    · exact .inr (.inl c2)
    refine .inr (.inr ((mem_splO h).2 ⟨⟨⟨by omega, by have := h.le; omega⟩, ⟨ya, fun x hx => by have := yb x hx; have := h.le; omega⟩, fun x hx => ?_, by omega, by omega⟩, hex⟩))
    have := mem_rest.1 (hsub x hx)
    omega
  constructor
  · rintro (h1 | h1 | ⟨h1, ⟨y, hy⟩, h3⟩)
    · exact ⟨allI names.length, .inl rfl, fun x => by
        rw [h1, of_all h]
        exact ⟨fun ⟨b, hb, e⟩ => ⟨b, mem_allI.2 ⟨by omega, by omega⟩, e⟩, fun ⟨b, hb, e⟩ => ⟨b, by have := mem_allI.1 hb; omega, e⟩⟩⟩
    · exact ⟨[0], .inr (.inl rfl), fun x => by
        rw [h1]
        exact ⟨fun e => ⟨0, by simp, e⟩, fun ⟨b, hb, e⟩ => by
          have : b = 0 := by have := List.mem_singleton.1 hb; omega
          subst this; exact e⟩⟩
    · rcases h3 with ⟨s, hs, hX⟩ | ⟨s, hs, hX⟩
      · obtain ⟨z, hz, rfl⟩ := List.mem_map.1 (by rw [subR_toR h.te] at hs; exact hs)
        have hz := mem_nodes_lt h.te hz
        have hL := lvS_lv h hz
        have hb : ∀ x ∈ lvS t names z, 0 ≤ x ∧ x < (names.length : Int) := fun x hx => by have := mem_lvS.1 hx; exact ⟨this.1, this.2.1⟩
        have hXX : ∀ x, X x ↔ ∃ b : Nat, (b : Int) ∈ lvS t names z ∧ x = gs names b := fun x => (hX x).trans (hL x)
        have y0 : (0 : Int) ∉ lvS t names z := fun e => h1 ((hXX _).2 ⟨0, e, rfl⟩)
        refine ⟨lvS t names z, third _ y0 (fun e => ?_) hb (lvS_asc _ _ _) ⟨_, hs, lvS t names z, lvS_asc _ _ _, hb, hL, ?_⟩, hXX⟩
        · obtain ⟨b, hb, _⟩ := (hXX y).1 hy
          rw [e] at hb; cases hb
        · unfold splS; rw [if_neg fun e => y0 (List.contains_iff_mem.1 e)]
      · obtain ⟨z, hz, rfl⟩ := List.mem_map.1 (by rw [subR_toR h.te] at hs; exact hs)
        have hz := mem_nodes_lt h.te hz
        have hL := lvS_lv h hz
        have hb : ∀ x ∈ lvS t names z, 0 ≤ x ∧ x < (names.length : Int) := fun x hx => by have := mem_lvS.1 hx; exact ⟨this.1, this.2.1⟩
        have hXX : ∀ x, X x ↔ ∃ b : Nat, (b : Int) ∈ complL names.length (lvS t names z) ∧ x = gs names b := fun x => by
          rw [hX, of_all h]
          constructor
          · rintro ⟨⟨b, hbn, rfl⟩, hn⟩
            exact ⟨b, mem_complL.2 ⟨by omega, by omega, fun e => hn ((hL _).2 ⟨b, e, rfl⟩)⟩, rfl⟩
          · rintro ⟨b, hbm, rfl⟩
            obtain ⟨b0, bn, hbz⟩ := mem_complL.1 hbm
            exact ⟨⟨b, by omega, rfl⟩, fun e => hbz (hin hb (by omega) ((hL _).1 e))⟩
        have hcb : ∀ x ∈ complL names.length (lvS t names z), 0 ≤ x ∧ x < (names.length : Int) := fun x hx => by have := mem_complL.1 hx; exact ⟨this.1, this.2.1⟩
        have y0 : (0 : Int) ∉ complL names.length (lvS t names z) := fun e => h1 ((hXX _).2 ⟨0, e, rfl⟩)
        have yz : (0 : Int) ∈ lvS t names z := Classical.byContradiction fun e => y0 (mem_complL.2 ⟨by omega, by omega, e⟩)
        refine ⟨_, third _ y0 (fun e => ?_) hcb (memK_asc _ _) ⟨_, hs, lvS t names z, lvS_asc _ _ _, hb, hL, ?_⟩, hXX⟩
        · obtain ⟨b, hb, _⟩ := (hXX y).1 hy
          rw [e] at hb; cases hb
        · unfold splS; rw [if_pos (List.contains_iff_mem.2 yz)]
  · rintro ⟨Y, hY, hX⟩
    rcases hY with rfl | rfl | ⟨y0, yn, yb, ya, hY⟩
    · refine .inl fun x => ?_
      rw [hX, of_all h]
      exact ⟨fun ⟨b, hb, e⟩ => ⟨b, by have := mem_allI.1 hb; omega, e⟩, fun ⟨b, hb, e⟩ => ⟨b, mem_allI.2 ⟨by omega, by omega⟩, e⟩⟩
    · refine .inr (.inl fun x => ?_)
      rw [hX]
      exact ⟨fun ⟨b, hb, e⟩ => by
          have : b = 0 := by have := List.mem_singleton.1 hb; omega
          subst this; exact e, fun e => ⟨0, by simp, e⟩⟩
    · have nx : ¬ X (gs names 0) := fun e => y0 (hin yb hn ((hX _).1 e))
      have ex : ∃ x, X x := by
        obtain ⟨x, hx⟩ := List.exists_mem_of_ne_nil _ yn
        obtain ⟨b, rfl⟩ := Int.eq_ofNat_of_zero_le (yb x hx).1
        exact ⟨_, (hX _).2 ⟨b, hx, rfl⟩⟩
      refine .inr (.inr ⟨nx, ex, ?_⟩)
      have ofs : ∀ {q : RT} {Z : List Int}, q ∈ subR (toR t) → (∀ x ∈ Z, 0 ≤ x ∧ x < (names.length : Int)) → Lv names q Z → Y = splS names.length Z → FamR (toR t) X ∨ CoR (toR t) X := fun {q Z} hq bZ lZ e => by
        by_cases z0 : (0 : Int) ∈ Z
        · rw [show splS names.length Z = complL names.length Z from if_pos (List.contains_iff_mem.2 z0)] at e
          refine .inr ⟨q, hq, fun x => ?_⟩
          rw [hX, of_all h, e]
          constructor
          · rintro ⟨b, hbm, rfl⟩
            obtain ⟨b0, bn, hbz⟩ := mem_complL.1 hbm
            exact ⟨⟨b, by omega, rfl⟩, fun e => hbz (hin bZ (by omega) ((lZ _).1 e))⟩
          · rintro ⟨⟨b, hbn, rfl⟩, hn⟩
            exact ⟨b, mem_complL.2 ⟨by omega, by omega, fun e => hn ((lZ _).2 ⟨b, e, rfl⟩)⟩, rfl⟩
        · rw [show splS names.length Z = Z from if_neg fun e => z0 (List.contains_iff_mem.1 e)] at e
          refine .inl ⟨q, hq, fun x => ?_⟩
          rw [hX, e]; exact (lZ x).symm
      rcases hY with hY | hY | hY
      · obtain ⟨x, rfl⟩ := List.length_eq_one_iff.1 hY
        have hb := yb x (by simp)
        obtain ⟨b, rfl⟩ := Int.eq_ofNat_of_zero_le hb.1
        obtain ⟨s, hs, e⟩ := hsingle b (by omega)
        refine .inl ⟨s, hs, fun x => ?_⟩
        rw [hX, e]
        constructor
        · rintro ⟨c, hc, rfl⟩
          have : c = b := by have := List.mem_singleton.1 hc; omega
          subst this; simp
        · intro hx; exact ⟨b, by simp, by simpa using hx⟩
      · obtain ⟨s, hs, e⟩ := hsingle 0 hn
        refine ofs hs (Z := [0]) (fun x hx => by have := List.mem_singleton.1 hx; omega) (fun x => ?_) ?_
        · rw [e]
          constructor
          · intro hx; exact ⟨0, by simp, by simpa using hx⟩
          · rintro ⟨c, hc, rfl⟩
            have : c = 0 := by have := List.mem_singleton.1 hc; omega
            subst this; simp
        · rw [rest_eq hn y0 yb ya hY]; rfl
      · obtain ⟨_, q, hq, Z, _, bZ, lZ, e⟩ := (mem_splO h).1 hY
        exact ofs hq bZ lZ e
theorem NodeSets.famY (h : NodeSets names t S) (hS : ∀ Y, (∃ i, i < t.ps.length ∧ Y = S i) ↔ RSf names.length l Y) (X : ByteArray → Prop) :
    FamR (toR t) X ↔ ∃ Y, RSf names.length l Y ∧ ∀ x, X x ↔ ∃ b : Nat, (b : Int) ∈ Y ∧ x = gs names b := by
  constructor
  · rintro ⟨s, hs, hX⟩
    obtain ⟨i, hi, hL⟩ := h.parts.1 s hs
    exact ⟨S i, (hS _).1 ⟨i, hi, rfl⟩, fun x => (hX x).trans (hL x)⟩
  · rintro ⟨Y, hY, hX⟩
    obtain ⟨i, hi, rfl⟩ := (hS _).2 hY
    obtain ⟨s, hs, hL⟩ := h.parts.2 i hi
    exact ⟨s, hs, fun x => (hX x).trans (hL x).symm⟩
theorem one_fam (h1 : names.length = 1) (hl : l = []) (Y : List Int) : (∃ i, i < (⟨[-1], [gs names 0]⟩ : Tre).ps.length ∧ Y = (fun _ => [0] : Nat → List Int) i) ↔ RSf names.length l Y := by
  subst hl
  rw [h1]
  constructor
  · rintro ⟨i, hi, rfl⟩; exact .inr (.inl rfl)
  · rintro (rfl | rfl | ⟨y0, yn, yb, ya, _⟩)
    · exact ⟨0, by simp, rfl⟩
    · exact ⟨0, by simp, rfl⟩
    · obtain ⟨x, hx⟩ := List.exists_mem_of_ne_nil _ yn
      have := yb x hx
      exact absurd (show (0 : Int) ∈ Y by rw [show (0 : Int) = x by omega]; exact hx) y0
theorem two_fam (h2 : names.length = 2) (hl : l = []) (Y : List Int) : (∃ i, i < (⟨[-1, 0, 0], [ByteArray.empty, gs names 0, gs names 1]⟩ : Tre).ps.length ∧ Y = twoS i) ↔ RSf names.length l Y := by
  subst hl
  rw [h2]
  constructor
  · rintro ⟨i, hi, rfl⟩
    have hi : i = 0 ∨ i = 1 ∨ i = 2 := by simp at hi; omega
    rcases hi with rfl | rfl | rfl
    · exact .inl rfl
    · exact .inr (.inl rfl)
    · exact .inr (.inr ⟨by simp [twoS], by simp [twoS], by simp [twoS], by simp [twoS], .inl (by simp [twoS])⟩)
  · rintro (rfl | rfl | ⟨y0, yn, yb, ya, hY⟩)
    · exact ⟨0, by simp, rfl⟩
    · exact ⟨1, by simp, rfl⟩
    · refine ⟨2, by simp, ?_⟩
      have h1 : Y.length + 1 = 2 := by
        rcases hY with hY | hY | hY
        · omega
        · exact hY
        · cases hY
      exact rest_eq (n := 2) (by omega) y0 yb ya h1
theorem bld_fam (h : BldOk names l) (h3 : 3 ≤ names.length) (Y : List Int) : (∃ i, i < (bT names (ownQ l)).ps.length ∧ Y = bS names (ownQ l) i) ↔ RSf names.length l Y := by
  have hlen : (bT names (ownQ l)).ps.length = 3 + (ownQ l).length + (names.length - 1) := bT_len
  rw [hlen]
  constructor
  · rintro ⟨i, hi, rfl⟩
    obtain ⟨⟨k1, k2⟩, k3⟩ := h.kind h3 hi
    rcases k3 with ⟨rfl, k4⟩ | ⟨rfl, k4, k5⟩ | ⟨rfl, k4⟩ | ⟨k, hk, rfl, k6, k4, k5⟩ | ⟨b, b1, b2, rfl, k5, k4⟩
    · exact .inl rfl
    · exact .inr (.inl k5)
    · refine .inr (.inr ⟨fun e => ?_, fun e => ?_, k2, k1, .inr (.inl k4)⟩)
      · have := mem_rest.1 (show (0 : Int) ∈ complL names.length [0] from e); omega
      · rw [e] at k4; simp at k4; omega
    · refine .inr (.inr ⟨fun e => ?_, fun e => ?_, k2, k1, .inr (.inr ?_)⟩)
      · rw [k6] at e; have := (h.own hk).bd _ e; omega
      · rw [e] at k4; simp at k4
      · rw [k6]; exact mem_ownO.1 (gl_in hk)
    · refine .inr (.inr ⟨fun e => ?_, fun e => ?_, k2, k1, .inl k4⟩)
      · rw [k5] at e; have := List.mem_singleton.1 e; omega
      · rw [e] at k4; simp at k4
  · rintro (rfl | rfl | ⟨y0, yn, yb, ya, hY | hY | hY⟩)
    · exact ⟨0, by omega, rfl⟩
    · exact ⟨1, by omega, rfl⟩
    · obtain ⟨x, rfl⟩ := List.length_eq_one_iff.1 hY
      have hb := yb x (by simp)
      obtain ⟨b, rfl⟩ := Int.eq_ofNat_of_zero_le hb.1
      have hb0 : b ≠ 0 := fun e => y0 (by subst e; simp)
      exact ⟨2 + (ownQ l).length + b, by omega, (bS_leaf (by omega)).symm⟩
    · exact ⟨2, by omega, rest_eq (by omega) y0 yb ya hY⟩
    · obtain ⟨k, hk, rfl⟩ := in_gl (mem_ownO.2 hY)
      exact ⟨3 + k, by omega, (bS_own hk).symm⟩
theorem bld_reroot (h : OfOk t names) (hla : LeafOk t la) (e0 : gs t.ns la = gs names 0) (hsm : 3 + t.ps.length + (names.length - 1) ≤ 64) : canT (bldT names (splO t names)) = canT (flat (rrQt t la)) := by
  have hb := of_bld h
  have hp := hb.pos
  have hq := rrQ_good hla
  have hqs := rrQ_size hla
  have hqt := treeErr_flat hq (by omega)
  have hol := ownQ_len (splO t names)
  have hsl := splO_len t names
  have key : ∀ {T : Tre} {S : Nat → List Int}, NodeSets names T S → (∀ Y, (∃ i, i < T.ps.length ∧ Y = S i) ↔ RSf names.length (splO t names) Y) → canT T = canT (flat (rrQt t la)) := fun {T S} hN hS => by
    have hg := (rr_facts hla).2.1
    have e1 : sortR (rrQt t la) = rrQt t la := sortR_idem _
    have e2 : sortR (toR T) = rrQt t la := fam_eq hN.oku (oku_contr hg) fun X => by
      rw [hN.famY hS X, ← rr_famY h hla e0 hp X]
      exact fam_sort
    rw [canT_flat hN.tree, canT_flat hqt, toR_flat, e1, e2]
  unfold bldT
  by_cases h1 : names.length = 1
  · rw [if_pos h1]
    exact key (one_sets hb h1) (one_fam h1 (hb.few (by omega)))
  rw [if_neg h1]
  by_cases h2 : names.length = 2
  · rw [if_pos h2, canT_idem (two_sets hb h2).tree]
    exact key (two_sets hb h2) (two_fam h2 (hb.few (by omega)))
  rw [if_neg h2]
  have hN := bld_sets hb (by omega) (by omega)
  rw [canT_idem hN.tree]
  exact key hN (bld_fam hb (by omega))
end
end Go.Proofs.YtpjijbophjdgaaaGreat
