/- The tree of the splits of a tree is this tree, rerooted: plain. Sets that are nested or apart, each of two elements or more: fewer than there are elements. So the tree of splits is small. -/
import Derived.Test.YtpjijbophjdgaaaGreatQ43
import Derived.Test.YtpjijbophjdgaaaGreatQ39
namespace Go.Proofs.YtpjijbophjdgaaaGreat
theorem parts_lam : ∀ (d : Nat) (r : RT), sizeR r ≤ d → GoodR r → ∀ p ∈ subR r, ∀ q ∈ subR r, p ∈ subR q ∨ q ∈ subR p ∨ ∀ x, x ∈ leafR p → x ∉ leafR q
  | 0, r, hd, _ => by have := sizeR_pos r; omega
  | d + 1, .node nm ks, hd, h => fun p hp q hq => by
    rw [subR, List.mem_cons] at hp hq
    rcases hp with rfl | hp
    · exact .inr (.inl (by rw [subR, List.mem_cons]; exact hq))
    rcases hq with rfl | hq
    · exact .inl (by rw [subR, List.mem_cons]; exact .inr hp)
    obtain ⟨k1, h1, hp⟩ := mem_subRs_ex hp
    obtain ⟨k2, h2, hq⟩ := mem_subRs_ex hq
    obtain ⟨i, hi, rfl⟩ := List.getElem_of_mem h1
    obtain ⟨j, hj, rfl⟩ := List.getElem_of_mem h2
    have h0 : ks ≠ [] := fun e => by subst e; simp at hi
    by_cases hij : i = j
    · subst hij
      have hk := mem_kid (nm := nm) (List.getElem_mem hi)
      exact parts_lam d _ (by have := size_kid (nm := nm) (List.getElem_mem hi); omega) (h.sub hk) p hp q hq
    · refine .inr (.inr fun x hx hx2 => ?_)
      have hn := h.nd
      rw [leafR_node (show nm.size = 0 from h.inn _ (subR_self _) h0), List.nodup_iff_pairwise_ne, List.pairwise_flatMap] at hn
      have hpw := List.pairwise_iff_getElem.1 hn.2
      have e1 := (leafR_sub hp).subset hx
      have e2 := (leafR_sub hq).subset hx2
      rcases Nat.lt_trichotomy i j with c | c | c
      · exact absurd rfl (hpw i j hi hj c x e1 x e2)
      · exact hij c
      · exact absurd rfl (hpw j i hj hi c x e2 x e1)
section
variable {names : List ByteArray} {t : Tre} {S : Nat → List Int} {l : List (List Int)} {la : Nat}
theorem lvS_root (h : OfOk t names) {x : Int} : x ∈ lvS t names 0 ↔ 0 ≤ x ∧ x < (names.length : Int) := by
  constructor
  · intro hx; have := mem_lvS.1 hx; exact ⟨this.1, this.2.1⟩
  · rintro ⟨x0, xn⟩
    obtain ⟨b, rfl⟩ := Int.eq_ofNat_of_zero_le x0
    obtain ⟨j, hj, h3, h4⟩ := of_names h (show b < names.length by omega)
    exact mem_lvS.2 ⟨x0, xn, j, hj, hit_rootS h.te j hj, h3, by rw [h4, fd_of h.nd (by omega)]⟩
theorem of_all (h : OfOk t names) {x : ByteArray} : x ∈ leafR (toR t) ↔ ∃ b : Nat, b < names.length ∧ x = gs names b := by
  have h1 := lvS_lv h (treeErr_zero h.te).1 x
  constructor
  · intro hx
    obtain ⟨b, hb, e⟩ := h1.1 hx
    have := (lvS_root h).1 hb
    exact ⟨b, by omega, e⟩
  · rintro ⟨b, hb, e⟩
    exact h1.2 ⟨b, (lvS_root h).2 ⟨by omega, by omega⟩, e⟩
theorem splS_lam {n : Nat} {X Y : List Int} (hX : ∀ x ∈ X, 0 ≤ x ∧ x < (n : Int)) (hY : ∀ x ∈ Y, 0 ≤ x ∧ x < (n : Int)) (h : (∀ x ∈ X, x ∉ Y) ∨ (∀ x ∈ X, x ∈ Y) ∨ ∀ x ∈ Y, x ∈ X) :
    (∀ x ∈ splS n X, x ∉ splS n Y) ∨ (∀ x ∈ splS n X, x ∈ splS n Y) ∨ ∀ x ∈ splS n Y, x ∈ splS n X := by
  by_cases hx : (0 : Int) ∈ X <;> by_cases hy : (0 : Int) ∈ Y
  · rw [show splS n X = complL n X from if_pos (List.contains_iff_mem.2 hx), show splS n Y = complL n Y from if_pos (List.contains_iff_mem.2 hy)]
    simp only [mem_complL]
    rcases h with h | h | h
    · exact absurd hy (h 0 hx)
    · exact .inr (.inr fun x ⟨a, b, c⟩ => ⟨a, b, fun e => c (h x e)⟩)
    · exact .inr (.inl fun x ⟨a, b, c⟩ => ⟨a, b, fun e => c (h x e)⟩)
  · rw [show splS n X = complL n X from if_pos (List.contains_iff_mem.2 hx), show splS n Y = Y from if_neg fun e => hy (List.contains_iff_mem.1 e)]
    simp only [mem_complL]
    rcases h with h | h | h
    · exact .inr (.inr fun x hx => ⟨(hY x hx).1, (hY x hx).2, fun e => h x e hx⟩)
    · exact absurd (h 0 hx) hy
    · exact .inl fun x ⟨a, b, c⟩ e => c (h x e)
  · rw [show splS n Y = complL n Y from if_pos (List.contains_iff_mem.2 hy), show splS n X = X from if_neg fun e => hx (List.contains_iff_mem.1 e)]
    simp only [mem_complL]
    rcases h with h | h | h
    · exact .inr (.inl fun x hx => ⟨(hX x hx).1, (hX x hx).2, fun e => h x hx e⟩)
    · exact .inl fun x hx ⟨a, b, c⟩ => c (h x hx)
    · exact absurd (h 0 hy) hx
  · rw [show splS n Y = Y from if_neg fun e => hy (List.contains_iff_mem.1 e), show splS n X = X from if_neg fun e => hx (List.contains_iff_mem.1 e)]
    exact h
theorem splO_comp (h : OfOk t names) {a b : List Int} (ha : a ∈ splO t names) (hb : b ∈ splO t names) : compB a b = true := by
  obtain ⟨a1, p, hp, X, aX, bX, lX, rfl⟩ := (mem_splO h).1 ha
  obtain ⟨b1, q, hq, Y, aY, bY, lY, rfl⟩ := (mem_splO h).1 hb
  refine (compB_iff a1.set b1.set).2 (splS_lam bX bY ?_)
  have up : ∀ {X Y : List Int} {p q : RT}, (∀ x ∈ X, 0 ≤ x ∧ x < (names.length : Int)) → (∀ x ∈ Y, 0 ≤ x ∧ x < (names.length : Int)) → Lv names p X → Lv names q Y → p ∈ subR q → ∀ x ∈ X, x ∈ Y := fun {X Y p q} bX bY lX lY h2 x hx => by
    obtain ⟨x0, xn⟩ := bX x hx
    obtain ⟨b, rfl⟩ := Int.eq_ofNat_of_zero_le x0
    obtain ⟨b', hb', e⟩ := (lY _).1 ((leafR_sub h2).subset ((lX _).2 ⟨b, hx, rfl⟩))
    have := bY _ hb'
    have := nd_inj h.nd (a := b) (b := b') (by omega) (by omega) e
    rw [this]; exact hb'
  rcases parts_lam _ (toR t) (Nat.le_refl _) (good_toR h.te) p hp q hq with h2 | h2 | h2
  · exact .inr (.inl (up bX bY lX lY h2))
  · exact .inr (.inr (up bY bX lY lX h2))
  · refine .inl fun x hx hy => ?_
    obtain ⟨x0, xn⟩ := bX x hx
    obtain ⟨b, rfl⟩ := Int.eq_ofNat_of_zero_le x0
    exact h2 _ ((lX _).2 ⟨b, hx, rfl⟩) ((lY _).2 ⟨b, hy, rfl⟩)
theorem splO_len (t : Tre) (names : List ByteArray) : (splO t names).length ≤ t.ps.length := by
  unfold splO
  split
  · unfold ordX
    refine Nat.le_trans (cptX_len _) ?_
    rw [(sortX_perm _).length_eq]
    unfold rawO
    refine Nat.le_trans (List.length_filter_le _ _) ?_
    rw [List.length_map]
    refine Nat.le_trans (List.length_filter_le _ _) ?_
    rw [List.length_range]; exact Nat.le_refl _
  · exact Nat.zero_le _
theorem of_bld (h : OfOk t names) : BldOk names (splO t names) := by
  obtain ⟨h0, h64, hl, _, _⟩ := treeErr_zero h.te
  have hgood := good_toR h.te
  refine ⟨?_, h.le, Nat.le_trans (splO_len t names) h64, fun k hk => ?_, h.nd, fun s hs => ((mem_splO h).1 hs).1, fun i k hik hk => splO_comp h (gl_in (by omega)) (gl_in hk)⟩
  · obtain ⟨x, hx⟩ := hgood.meet (subR_self _)
    obtain ⟨b, hb, _⟩ := (of_all h).1 hx
    omega
  · obtain ⟨j, hj, h3, h4⟩ := of_names h hk
    rw [← h4]
    exact tleaf_named h.te hj (LeafOk.nokid ⟨h.te, hj, h3⟩)
end
end Go.Proofs.YtpjijbophjdgaaaGreat
namespace Go.Proofs.YtpjijbophjdgaaaGreat
end Go.Proofs.YtpjijbophjdgaaaGreat
