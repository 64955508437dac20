/- The tree of groups that are not in conflict: valid, its leaves are the names, no node has one child. The contract of layer 31's reference's number. Slices of a list of children. The contract of slices.DeleteFunc at nodes. The text of a tree: phylotree.Print$1. The contract of phylotree.contracted. Which parts the rose tree of nested sets has: the sets, and the single sources. The contract of layer 31's reference's ordered. The plain law of SharederrorLeaves. -/
import Derived.Test.YtpjijbophjdgaaaGreatQ35
import Derived.Test.YtpjijbophjdgaaaGreatQ9
import Derived.Test.YtpjijbophjdgaaaGreatQ13
import Derived.Test.YtpjijbophjdgaaaGreatQ31
import Derived.Lib.MinMax
import Derived.Test.YtpjijbophjdgaaaGreatQ6
import Derived.Test.YtpjijbophjdgaaaGreatQ34
import Derived.Test.YtpjijbophjdgaaaGreatQ33
namespace Go.Proofs.YtpjijbophjdgaaaGreat
theorem mxK_ge (l : List Int) : ∀ {n k : Nat}, k < n → gi l k ≤ mxK l n
  | 0, k, h => by omega
  | n + 1, k, h => by
    rw [mxK]
    by_cases e : k = n
    · subst e; omega
    · have := mxK_ge l (n := n) (k := k) (by omega); omega
theorem mxL_ge {l : List Int} {x : Int} (h : x ∈ l) : x ≤ mxL l := by
  obtain ⟨k, hk, e⟩ := List.getElem_of_mem h
  have h1 := mxK_ge l hk
  have h2 : gi l k = x := by simp [gi, hk, e]
  rw [h2] at h1; exact h1
theorem innK_nodup (l : List Grp) (all : Nat) : ∀ k, (innK l all k).Nodup
  | 0 => List.nodup_nil
  | k + 1 => by
    have ih := innK_nodup l all k
    unfold innK
    split
    · rename_i hc
      rw [List.nodup_append]
      refine ⟨ih, by simp, fun a ha b hb e => ?_⟩
      obtain rfl : b = ofS (gg l k).src := by simpa using hb
      subst e; exact hc.2.2 ha
    · exact ih
structure ShOk (names : List ByteArray) (l : List Grp) : Prop where
  pos : 0 < names.length
  le : names.length ≤ 32
  nm : ∀ k, k < names.length → namedB (gs names k).data.toList = true
  nd : ∀ j k, j < k → k < names.length → gs names k ≠ gs names j
  gc : gcErr l = 0
  far : ∀ k, k < l.length → ∀ x ∈ (gg l k).src, x < names.length
  cf : ∀ i k, i < k → k < l.length → confB (ofS (gg l i).src) (ofS (gg l k).src) = false
theorem shErr_ok {names : List ByteArray} {l : List Grp} (h : shErr names l = 0) : ShOk names l := by
  unfold shErr at h
  split at h
  · cases h
  · rename_i h1
    split at h
    · cases h
    · rename_i h2
      split at h
      · rename_i h3; exact absurd h h3
      · rename_i h3
        have h3 : firstNZ (nmErr names) names.length = 0 := by
          by_cases e : firstNZ (nmErr names) names.length = 0
          · exact e
          · exact absurd e h3
        split at h
        · rename_i h4; exact absurd h h4
        · rename_i h4
          have h4 : gcErr l = 0 := by
            by_cases e : gcErr l = 0
            · exact e
            · exact absurd e h4
          split at h
          · cases h
          · rename_i h5
            split at h
            · cases h
            · rename_i h6
              have h6 : cfL l = [] := by
                by_cases e : cfL l = []
                · exact e
                · exact absurd e h6
              have hnm : ∀ k, k < names.length → namedB (gs names k).data.toList = true ∧ ((List.range k).any fun j => decide (gs names k = gs names j)) = false := fun k hk => by
                have := firstNZ_eq_zero h3 k hk
                unfold nmErr at this
                split at this
                · cases this
                · rename_i q1
                  split at this
                  · cases this
                  · rename_i q2
                    exact ⟨by simpa using q1, by simpa using q2⟩
              have h5 : farB l names.length = false := by simpa using h5
              unfold cfL at h6
              rw [if_pos h4] at h6
              refine ⟨by omega, by omega, fun k hk => (hnm k hk).1, fun j k hj hk => by
                have := any_false (hnm k hk).2 hj
                simpa using this, h4, fun k hk x hx => ?_, fun i k hik hk => ?_⟩
              · have h7 := any_false h5 hk
                have h8 := mxL_ge hx
                have h9 : ¬ ((names.length : Int) ≤ mxL (gg l k).src) := by simpa using h7
                omega
              · cases hc : confB (ofS (gg l i).src) (ofS (gg l k).src) with
                | false => rfl
                | true =>
                  exfalso
                  have hm : [(i : Int), (k : Int)] ∈ cfK l l.length := by
                    unfold cfK cfRow
                    refine List.mem_flatMap.2 ⟨i, List.mem_range.2 (by omega), List.mem_map.2 ⟨k, List.mem_filter.2 ⟨List.mem_range.2 hk, ?_⟩, rfl⟩⟩
                    unfold cfB
                    simp [hik, hc]
                  rw [h6] at hm; cases hm
section
variable {names : List ByteArray} {l : List Grp}
theorem ShOk.small (h : ShOk names l) {k : Nat} (hk : k < l.length) : Small (gg l k).src := (srcOk_small ((gcErr_zero h.gc).2 k hk).2.2.2).1
theorem ShOk.bits (h : ShOk names l) {k : Nat} (hk : k < l.length) {i : Nat} : (ofS (gg l k).src).testBit i = true ↔ (i : Int) ∈ (gg l k).src := testBit_ofS (h.small hk) i
theorem two_bits {n x a b : Nat} (hab : a ≠ b) (ha : a ∈ bitsN n x) (hb : b ∈ bitsN n x) : 2 ≤ (bitsN n x).length := by
  have h1 : [a, b].Nodup := by simp [hab]
  have h2 : [a, b] ⊆ bitsN n x := fun y hy => by
    rcases List.mem_cons.1 hy with e | hy
    · rw [e]; exact ha
    · have e : y = b := by simpa using hy
      rw [e]; exact hb
  have := h1.length_le_of_subset h2
  simpa using this
theorem conf_cases {a b : Nat} (h : confB a b = false) : withinB a b = true ∨ withinB b a = true ∨ a &&& b = 0 := by
  unfold confB at h
  by_cases e : a &&& b = 0
  · exact .inr (.inr e)
  · cases h1 : withinB a b
    · cases h2 : withinB b a
      · rw [h1, h2] at h; simp [e] at h
      · exact .inr (.inl rfl)
    · exact .inl rfl
theorem ShOk.lam (h : ShOk names l) : Lam (innL l (allN names.length)) names.length := by
  refine ⟨fun y hy => ?_, fun y hy i hi => ?_, fun y hy => ?_, fun y hy z hz => ?_, innK_nodup _ _ _⟩
  · obtain ⟨j, hj, rfl, _⟩ := innK_mem hy
    exact ofS_u64 (h.small hj)
  · obtain ⟨j, hj, rfl, _⟩ := innK_mem hy
    have := h.far j hj _ ((h.bits hj).1 hi); omega
  · obtain ⟨j, hj, rfl, h1, _⟩ := innK_mem hy
    obtain ⟨hs, _, hm⟩ := srcOk_small ((gcErr_zero h.gc).2 j hj).2.2.2
    obtain ⟨a, ha, _⟩ := small_mem hs (gi_mem (l := (gg l j).src) (k := 0) (by omega))
    obtain ⟨b, hb, _⟩ := small_mem hs (gi_mem (l := (gg l j).src) (k := 1) h1)
    have h2 := hm 1 (by omega) h1
    have hma : (a : Int) ∈ (gg l j).src := by rw [← ha]; exact gi_mem (by omega)
    have hmb : (b : Int) ∈ (gg l j).src := by rw [← hb]; exact gi_mem h1
    refine two_bits (a := a) (b := b) (by
      have e : (1 : Nat) - 1 = 0 := rfl
      rw [e, ha, hb] at h2; omega) (mem_bitsN.2 ⟨?_, (h.bits hj).2 hma⟩) (mem_bitsN.2 ⟨?_, (h.bits hj).2 hmb⟩)
    · have := h.far j hj _ hma; omega
    · have := h.far j hj _ hmb; omega
  · obtain ⟨j, hj, rfl, _⟩ := innK_mem hy
    obtain ⟨k, hk, rfl, _⟩ := innK_mem hz
    rcases Nat.lt_trichotomy j k with e | e | e
    · exact conf_cases (h.cf j k e hk)
    · subst e
      exact .inl ((withinB_iff (ofS_u64 (h.small hj)) (ofS_u64 (h.small hj))).2 fun i hi => hi)
    · rcases conf_cases (h.cf k j e hj) with q | q | q
      · exact .inr (.inl q)
      · exact .inl q
      · exact .inr (.inr (by rw [Nat.and_comm]; exact q))
theorem all_bits (n : Nat) : bitsN n (allN n) = List.range n := by
  unfold bitsN allN
  rw [List.filter_eq_self]
  intro i hi
  have : i < n := List.mem_range.1 hi
  rw [Nat.testBit_two_pow_sub_one]; simpa using this
def shR (names : List ByteArray) (l : List Grp) : RT := growR names (innL l (allN names.length)) (allN names.length + 1) (allN names.length)
theorem range_gs (names : List ByteArray) : (List.range names.length).map (gs names) = names := by
  refine List.ext_getElem (by simp) fun i h1 h2 => ?_
  simp [gs, h2]
theorem shR_ok (h : ShOk names l) (h2 : 2 ≤ names.length) : (leafR (shR names l)).Perm names ∧ ∀ s ∈ subR (shR names l), PartOk s := by
  have hall : U64 (allN names.length) := by have := all_lt h.le; unfold U64; omega
  have := growR_ok (inner := innL l (allN names.length)) h.le h.nm h.lam (allN names.length + 1) (allN names.length) (by omega) hall (fun i hi => by
    unfold allN at hi
    rw [Nat.testBit_two_pow_sub_one] at hi; simpa using hi) (by rw [all_bits]; simpa using h2)
  rw [all_bits, range_gs] at this
  exact this
theorem names_nodup (h : ShOk names l) : names.Nodup := by
  unfold List.Nodup
  rw [List.pairwise_iff_getElem]
  intro i j hi hj hij e
  have := h.nd i j hij hj
  simp [gs, hi, hj] at this
  exact this e.symm
theorem shR_good (h : ShOk names l) (h2 : 2 ≤ names.length) : GoodR (shR names l) := by
  obtain ⟨h3, h4⟩ := shR_ok h h2
  exact ⟨fun s hs hk => (h4 s hs).1 hk, fun s hs hk => (h4 s hs).2.1 hk, h3.nodup_iff.2 (names_nodup h)⟩
theorem shR_size (h : ShOk names l) (h2 : 2 ≤ names.length) : sizeR (shR names l) + 1 ≤ 2 * names.length := by
  obtain ⟨h3, h4⟩ := shR_ok h h2
  have := size_le _ h4
  rw [h3.length_eq] at this; exact this
theorem rawT_R (h : ShOk names l) : rawT names l = flat (shR names l) := rawT_flat names l h.le h.gc
theorem rawT_valid (h : ShOk names l) (h2 : 2 ≤ names.length) : treeErr (rawT names l) = 0 := by
  rw [rawT_R h]
  have := shR_size h h2
  have := h.le
  exact treeErr_flat (shR_good h h2) (by omega)
theorem rawT_small (h : ShOk names l) (h2 : 2 ≤ names.length) : (rawT names l).ps.length ≤ 63 := by
  rw [rawT_R h, flat_ps]
  have := shR_size h h2
  have := h.le
  omega
theorem shTree_two (h : shErr names l = 0) (h2 : 2 ≤ names.length) : shTree names l = flat (sortR (shR names l)) ∧ shRes names l = 0 := by
  have hk := shErr_ok h
  have hv := rawT_valid hk h2
  unfold shTree shRes
  rw [if_neg (by simp [h]), if_neg (by omega), if_pos hv, if_neg (by simp [h]), if_neg (by omega), if_pos hv, canT_flat hv, rawT_R hk, toR_flat]
  exact ⟨rfl, rfl⟩
end
end Go.Proofs.YtpjijbophjdgaaaGreat
namespace Go.Proofs.YtpjijbophjdgaaaGreat
open Go.RowKit Go.Deep
end Go.Proofs.YtpjijbophjdgaaaGreat
namespace Go.Proofs.YtpjijbophjdgaaaGreat
open Go.RowKit Go.Deep
end Go.Proofs.YtpjijbophjdgaaaGreat
namespace Go.Proofs.YtpjijbophjdgaaaGreat
open Go.RowKit Go.Deep
section
variable {A : Nat → Nat} {P : Nat → Bool} {base : Nat} {w wr : World} {g cap : Nat} {ks : List Nat} {X : List Value}
end
theorem owns_cap {base : Nat} {e : TypeId} {w : World} {g n cap : Nat} {xs : List Value} (h : Owns base e w (.slice (some ⟨g, 0, none⟩) n cap) xs) : n ≤ cap := by
  obtain ⟨h1, h2⟩ := h
  rcases h2 with ⟨e1, _⟩ | ⟨g2, cap2, cur, e1, hg, hc, hn, _⟩
  · cases e1
  · injection e1 with a1 a2 a3
    omega
theorem qd_trans {w w' w'' : World} (h : QD w w') (k : QD w' w'') : QD w w'' := by
  obtain ⟨n, rfl⟩ := h
  obtain ⟨m, rfl⟩ := k
  exact (QD.refl w).drewN n |>.drewN m
end Go.Proofs.YtpjijbophjdgaaaGreat
namespace Go.Proofs.YtpjijbophjdgaaaGreat
open Go.RowKit Go.Deep
end Go.Proofs.YtpjijbophjdgaaaGreat
namespace Go.Proofs.YtpjijbophjdgaaaGreat
open Go.RowKit Go.Deep
end Go.Proofs.YtpjijbophjdgaaaGreat
namespace Go.Proofs.YtpjijbophjdgaaaGreat
theorem subs_grow (names : List ByteArray) (inner : List Nat) : ∀ (d x : Nat) (q : RT), (∀ y ∈ inner, U64 y) → U64 x → x < d → q ∈ subRs (growR names inner d x).kids →
    (∃ i, i < names.length ∧ q = .node (gs names i) []) ∨ ∃ y e, y ∈ inner ∧ y < e ∧ q = growR names inner e y
  | 0, _, _, _, _, h, _ => by omega
  | d + 1, x, q, hu, hx, hd, h => by
    rw [growR] at h
    have h : q ∈ subRs ((kidsX inner x).map (growR names inner d) ++ leavesN names (leftX inner x) names.length) := h
    rw [subRs_flat, List.flatMap_append, List.mem_append] at h
    rcases h with h | h
    · obtain ⟨k, hk, hq⟩ := List.mem_flatMap.1 h
      obtain ⟨y, hy, rfl⟩ := List.mem_map.1 hk
      obtain ⟨hy1, hy2⟩ := List.mem_filter.1 hy
      have hlt := isKid_lt hx (hu y hy1) hy2
      cases hg : growR names inner d y with
      | node nm ks =>
        rw [hg, subR, List.mem_cons] at hq
        rcases hq with rfl | hq
        · exact .inr ⟨y, d, hy1, by omega, hg.symm⟩
        · refine subs_grow names inner d y q hu (hu y hy1) (by omega) ?_
          rw [hg]; exact hq
    · obtain ⟨k, hk, hq⟩ := List.mem_flatMap.1 h
      unfold leavesN at hk
      obtain ⟨i, hi, rfl⟩ := List.mem_map.1 hk
      have hi2 : i < names.length := List.mem_range.1 (List.mem_filter.1 hi).1
      unfold leafN at hq
      rw [subR, subRs] at hq
      exact .inl ⟨i, hi2, by simpa using hq⟩
theorem withinB_trans {a b c : Nat} (ha : U64 a) (hb : U64 b) (hc : U64 c) (h1 : withinB a b = true) (h2 : withinB b c = true) : withinB a c = true :=
  (withinB_iff ha hc).2 fun i hi => (withinB_iff hb hc).1 h2 i ((withinB_iff ha hb).1 h1 i hi)
theorem kid_above {inner : List Nat} {x : Nat} (hu : ∀ y ∈ inner, U64 y) (hx : U64 x) : ∀ (m y : Nat), x - y ≤ m → y ∈ inner → withinB y x = true → y ≠ x → ∃ z ∈ kidsX inner x, withinB y z = true := by
  intro m
  induction m with
  | zero =>
    intro y hm hy hw hne
    have := within_le (hu y hy) hx hw
    omega
  | succ m ih =>
    intro y hm hy hw hne
    by_cases hk : isKid inner x y = true
    · exact ⟨y, List.mem_filter.2 ⟨hy, hk⟩, (withinB_iff (hu y hy) (hu y hy)).2 fun _ h => h⟩
    · unfold isKid at hk
      rw [decide_eq_true hne, hw, Bool.true_and, Bool.true_and] at hk
      have hk : ((List.range inner.length).any fun j => midB x y (gn inner j)) = true := by simpa using hk
      obtain ⟨j, hj, hmid⟩ := List.any_eq_true.1 hk
      have hj : j < inner.length := List.mem_range.1 hj
      have hz := gn_mem hj
      generalize gn inner j = z at *
      unfold midB at hmid
      simp only [Bool.and_eq_true, decide_eq_true_eq] at hmid
      obtain ⟨⟨⟨a1, a2⟩, a3⟩, a4⟩ := hmid
      have h1 := within_le (hu y hy) (hu z hz) a4
      have h2 := within_le (hu z hz) hx a3
      obtain ⟨q, hq, hzq⟩ := ih z (by omega) hz a3 a1
      exact ⟨q, hq, withinB_trans (hu y hy) (hu z hz) (hu q (List.mem_filter.1 hq).1) a4 hzq⟩
theorem set_part {names : List ByteArray} {inner : List Nat} (hu : ∀ y ∈ inner, U64 y) : ∀ (d x y : Nat), x < d → U64 x → y ∈ inner → withinB y x = true → ∃ e, y < e ∧ growR names inner e y ∈ subR (growR names inner d x)
  | 0, _, _, h, _, _, _ => by omega
  | d + 1, x, y, hd, hx, hy, hw => by
    by_cases e : y = x
    · subst e
      refine ⟨d + 1, hd, ?_⟩
      rw [growR, subR]; simp
    · obtain ⟨z, hz, hyz⟩ := kid_above hu hx _ y (Nat.le_refl _) hy hw e
      obtain ⟨hz1, hz2⟩ := List.mem_filter.1 hz
      have hlt := isKid_lt hx (hu z hz1) hz2
      obtain ⟨f, hf, hm⟩ := set_part (names := names) hu d z y (by omega) (hu z hz1) hy hyz
      refine ⟨f, hf, ?_⟩
      rw [growR, subR]
      refine List.mem_cons_of_mem _ ?_
      rw [subRs_flat, List.flatMap_append, List.mem_append]
      exact .inl (List.mem_flatMap.2 ⟨_, List.mem_map.2 ⟨z, hz, rfl⟩, hm⟩)
end Go.Proofs.YtpjijbophjdgaaaGreat
namespace Go.Proofs.YtpjijbophjdgaaaGreat
open Go.RowKit Go.Deep
end Go.Proofs.YtpjijbophjdgaaaGreat
namespace Go.Proofs.YtpjijbophjdgaaaGreat
section
variable {names : List ByteArray} {l : List Grp}
end
end Go.Proofs.YtpjijbophjdgaaaGreat
