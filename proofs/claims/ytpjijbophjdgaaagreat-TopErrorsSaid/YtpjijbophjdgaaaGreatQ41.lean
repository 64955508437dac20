/- Nodes in the order in which split.below yields them; the places below a node out of those below its children: plain. The first pair that is not compatible; how many splits are of one tree only: plain. -/
import Derived.Test.YtpjijbophjdgaaaGreatQ40
import Derived.Test.YtpjijbophjdgaaaGreatQ39
namespace Go.Proofs.YtpjijbophjdgaaaGreat
def posD (ps : List Int) : Nat → Nat → List Nat
  | 0, _ => []
  | d + 1, i => (kidsL ps i).flatMap (posD ps d) ++ if i = 0 then [] else [i]
def posF (t : Tre) (i : Nat) : List Nat := posD t.ps (t.ps.length - i) i
theorem flatMap_cong {α β : Type} {f g : α → List β} : ∀ {l : List α}, (∀ x ∈ l, f x = g x) → l.flatMap f = l.flatMap g
  | [], _ => rfl
  | a :: l, h => by
    rw [List.flatMap_cons, List.flatMap_cons, h a (by simp), flatMap_cong fun x hx => h x (List.mem_cons_of_mem _ hx)]
theorem posD_fuel (ps : List Int) : ∀ (d e i : Nat), ps.length - i ≤ d → ps.length - i ≤ e → i < ps.length → posD ps d i = posD ps e i
  | 0, e, i, h, _, hi => by omega
  | d + 1, 0, i, _, h, hi => by omega
  | d + 1, e + 1, i, h1, h2, hi => by
    rw [posD, posD]
    congr 1
    refine flatMap_cong fun c hc => ?_
    obtain ⟨c1, c2, _⟩ := mem_kidsL.1 hc
    exact posD_fuel ps d e c (by omega) (by omega) c1
theorem posF_eq (t : Tre) {i : Nat} (hi : i < t.ps.length) : posF t i = (kidsL t.ps i).flatMap (posF t) ++ if i = 0 then [] else [i] := by
  unfold posF
  obtain ⟨d, hd⟩ : ∃ d, t.ps.length - i = d + 1 := ⟨t.ps.length - i - 1, by omega⟩
  rw [hd, posD]
  congr 1
  refine flatMap_cong fun c hc => ?_
  obtain ⟨c1, c2, _⟩ := mem_kidsL.1 hc
  exact posD_fuel t.ps _ _ c (by omega) (Nat.le_refl _) c1
section
variable {t : Tre} {names : List ByteArray}
theorem posF_nodes (h : treeErr t = 0) : ∀ (d i : Nat), t.ps.length - i ≤ d → i < t.ps.length → (∀ k, k ∈ posF t i ↔ k ∈ nodesF (frT t) (rkT t) i ∧ k ≠ 0) ∧ (posF t i).length ≤ (nodesF (frT t) (rkT t) i).length
  | 0, i, hd, hi => by omega
  | d + 1, i, hd, hi => by
    have e := nodesF_eq (frT_arb h).wf hi
    rw [frT_kids] at e
    have ih : ∀ c ∈ kidsL t.ps i, (∀ k, k ∈ posF t c ↔ k ∈ nodesF (frT t) (rkT t) c ∧ k ≠ 0) ∧ (posF t c).length ≤ (nodesF (frT t) (rkT t) c).length := fun c hc => by
      obtain ⟨c1, c2, _⟩ := mem_kidsL.1 hc
      exact posF_nodes h d c (by omega) c1
    rw [posF_eq t hi, e]
    constructor
    · intro k
      rw [List.mem_append, List.mem_flatMap, List.mem_cons, List.mem_flatMap]
      constructor
      · rintro (⟨c, hc, hk⟩ | hk)
        · obtain ⟨h1, h2⟩ := ((ih c hc).1 k).1 hk
          exact ⟨.inr ⟨c, hc, h1⟩, h2⟩
        · by_cases h0 : i = 0
          · rw [if_pos h0] at hk; cases hk
          · rw [if_neg h0, List.mem_singleton] at hk
            subst hk; exact ⟨.inl rfl, h0⟩
      · rintro ⟨rfl | ⟨c, hc, hk⟩, h2⟩
        · rw [if_neg h2]; exact .inr (by simp)
        · exact .inl ⟨c, hc, ((ih c hc).1 k).2 ⟨hk, h2⟩⟩
    · have hs : ∀ l : List Nat, (∀ c ∈ l, (posF t c).length ≤ (nodesF (frT t) (rkT t) c).length) → (l.flatMap (posF t)).length ≤ (l.flatMap (nodesF (frT t) (rkT t))).length := fun l => by
        induction l with
        | nil => intro _; exact Nat.le_refl _
        | cons a l ihl =>
          intro hl
          have h1 := hl a (by simp)
          have h2 := ihl fun c hc => hl c (List.mem_cons_of_mem _ hc)
          rw [List.flatMap_cons, List.flatMap_cons, List.length_append, List.length_append]; omega
      have h1 := hs _ fun c hc => (ih c hc).2
      have h2 : (if i = 0 then ([] : List Nat) else [i]).length ≤ 1 := by split <;> simp
      rw [List.length_append, List.length_cons]
      show _ ≤ ((kidsL t.ps i).flatMap (nodesF (frT t) (rkT t))).length + 1
      omega
theorem mem_pos (h : treeErr t = 0) {k : Nat} : k ∈ posF t 0 ↔ 0 < k ∧ k < t.ps.length := by
  have h0 := (treeErr_zero h).1
  rw [(posF_nodes h _ 0 (Nat.le_refl _) h0).1, (nodes_perm h).mem_iff, List.mem_range]
  omega
theorem pos_len (h : treeErr t = 0) : (posF t 0).length ≤ t.ps.length := by
  have h0 := (treeErr_zero h).1
  refine Nat.le_trans (posF_nodes h _ 0 (Nat.le_refl _) h0).2 ?_
  rw [(nodes_perm h).length_eq, List.length_range]; exact Nat.le_refl _
theorem lvS_meet (h : OfOk t names) {i : Nat} (hi : i < t.ps.length) : 0 < (lvS t names i).length := by
  have hg : GoodR (toRF (frT t) (rkT t) i) := (good_toR h.te).sub (by
    rw [subR_toR h.te]
    exact List.mem_map.2 ⟨i, (nodes_perm h.te).mem_iff.2 (List.mem_range.2 hi), rfl⟩)
  obtain ⟨x, hx⟩ := hg.meet (subR_self _)
  obtain ⟨b, hb, _⟩ := (lvS_lv h hi x).1 hx
  exact List.length_pos_of_mem hb
theorem lvS_leaf (h : OfOk t names) {i : Nat} (hi : i < t.ps.length) (hk : kidsL t.ps i = []) : lvS t names i = [fdN names (gs t.ns i)] := by
  have hz := named_size (tleaf_named h.te hi hk)
  obtain ⟨b, hb, e⟩ := h.has i hi hz
  have hf : fdN names (gs t.ns i) = (b : Int) := by rw [← e]; exact fd_of h.nd hb
  refine lv_inj h.nd (lvS_asc t names i) (by simp) (fun x hx => by have := mem_lvS.1 hx; exact ⟨this.1, this.2.1⟩) (fun x hx => by
    rw [List.mem_singleton.1 hx, hf]; omega) (lvS_lv h hi) fun y => ?_
  rw [toRF_eq (frT_arb h.te).wf hi, frT_kids, hk, List.map_nil, show (frT t).nm i = gs t.ns i from rfl, leafR_leaf hz, hf]
  constructor
  · intro hy; exact ⟨b, by simp, by rw [e]; simpa using hy⟩
  · rintro ⟨c, hc, rfl⟩
    have : c = b := by have := List.mem_singleton.1 hc; omega
    subst this; rw [e]; simp
theorem lvS_node (h : OfOk t names) {i : Nat} (hi : i < t.ps.length) (hk : kidsL t.ps i ≠ []) : sortL ((kidsL t.ps i).flatMap (lvS t names)) = lvS t names i := by
  have hmem : toRF (frT t) (rkT t) i ∈ subR (toR t) := by
    rw [subR_toR h.te]
    exact List.mem_map.2 ⟨i, (nodes_perm h.te).mem_iff.2 (List.mem_range.2 hi), rfl⟩
  have hg : GoodR (toRF (frT t) (rkT t) i) := (good_toR h.te).sub hmem
  have eT := toRF_eq (frT_arb h.te).wf hi
  rw [frT_kids] at eT
  have hz : ((frT t).nm i).size = 0 := by
    have := hg.inn _ (subR_self _)
    rw [eT] at this
    exact this (by show List.map _ _ ≠ []; simpa using hk)
  have hlf : leafR (toRF (frT t) (rkT t) i) = ((kidsL t.ps i).map (toRF (frT t) (rkT t))).flatMap leafR := by rw [eT]; exact leafR_node hz
  have kl : ∀ c ∈ kidsL t.ps i, c < t.ps.length := fun c hc => (mem_kidsL.1 hc).1
  have hbd : ∀ c, ∀ x ∈ lvS t names c, 0 ≤ x ∧ x < (names.length : Int) := fun c x hx => by have := mem_lvS.1 hx; exact ⟨this.1, this.2.1⟩
  have hnd : ((kidsL t.ps i).flatMap (lvS t names)).Nodup := by
    have hn := hg.nd
    rw [hlf, List.nodup_iff_pairwise_ne, List.pairwise_flatMap] at hn
    have h2 := List.pairwise_map.1 hn.2
    rw [List.nodup_iff_pairwise_ne, List.pairwise_flatMap]
    refine ⟨fun c _ => (lvS_asc t names c).imp fun h e => by omega, h2.imp_of_mem fun {a b} ha hb hab x hx y hy e => ?_⟩
    subst e
    obtain ⟨q, rfl⟩ := Int.eq_ofNat_of_zero_le (hbd a x hx).1
    exact hab _ ((lvS_lv h (kl a ha) _).2 ⟨q, hx, rfl⟩) _ ((lvS_lv h (kl b hb) _).2 ⟨q, hy, rfl⟩) rfl
  have hasc : (sortL ((kidsL t.ps i).flatMap (lvS t names))).Pairwise (· < ·) := by
    have h1 := sortL_pair ((kidsL t.ps i).flatMap (lvS t names))
    have h2 : (sortL ((kidsL t.ps i).flatMap (lvS t names))).Nodup := (List.mergeSort_perm _ _).nodup_iff.2 hnd
    rw [List.nodup_iff_pairwise_ne] at h2
    exact (h1.and h2).imp fun ⟨a, b⟩ => by omega
  refine lv_inj h.nd hasc (lvS_asc t names i) (fun x hx => ?_) (hbd i) (fun y => ?_) (lvS_lv h hi)
  · obtain ⟨c, _, hc⟩ := List.mem_flatMap.1 ((List.mergeSort_perm _ _).mem_iff.1 hx)
    exact hbd c x hc
  · rw [hlf, List.mem_flatMap]
    constructor
    · rintro ⟨r, hr, hy⟩
      obtain ⟨c, hc, rfl⟩ := List.mem_map.1 hr
      obtain ⟨b, hb, e⟩ := (lvS_lv h (kl c hc) y).1 hy
      exact ⟨b, (List.mergeSort_perm _ _).mem_iff.2 (List.mem_flatMap.2 ⟨c, hc, hb⟩), e⟩
    · rintro ⟨b, hb, e⟩
      obtain ⟨c, hc, hb⟩ := List.mem_flatMap.1 ((List.mergeSort_perm _ _).mem_iff.1 hb)
      exact ⟨_, List.mem_map.2 ⟨c, hc, rfl⟩, (lvS_lv h (kl c hc) y).2 ⟨b, hb, e⟩⟩
end
theorem par_lt {t : Tre} (h : treeErr t = 0) {k i : Nat} (hk : k < t.ps.length) (e : gi t.ps k = (i : Int)) : i < k := by
  have hok := (treeErr_zero h).2.2.2.1
  by_cases h0 : k = 0
  · subst h0
    have h1 := pOkB_at hok hk
    unfold okp at h1
    simp at h1
    omega
  · have := pOkB_par hok hk (by omega)
    omega
end Go.Proofs.YtpjijbophjdgaaaGreat
namespace Go.Proofs.YtpjijbophjdgaaaGreat
end Go.Proofs.YtpjijbophjdgaaaGreat
