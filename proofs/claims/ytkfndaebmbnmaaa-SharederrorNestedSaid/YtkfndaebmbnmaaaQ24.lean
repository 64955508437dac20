/- The tree of groups that are not in conflict: valid, its leaves are the names, no node has one child. Which parts the rose tree of nested sets has: the sets, and the single sources. The contract of slices.Sort at strings: the laying. slices.Sort at strings that the call has built. The law's names: A, B, .. slices.Equal at strings. The plain law of SharederrorLeaves. -/
import Derived.Test.YtkfndaebmbnmaaaQ23
import Derived.Test.YtkfndaebmbnmaaaQ22
import Derived.Shelf.SlGeneric
import Derived.Shelf.Lays
import Derived.Shelf.Sort.Plain
import Derived.Ground.NamesProg
import Derived.Test.YtkfndaebmbnmaaaProg
import Derived.Test.YtkfndaebmbnmaaaQ5
import Derived.Test.YtkfndaebmbnmaaaQ1
import Derived.Sort.OwnSorted
import Derived.Shelf.Slices.In.SortNone
import Derived.Test.YtkfndaebmbnmaaaQ18
import Derived.Laws.IdiomStrings
import Derived.Test.YtkfndaebmbnmaaaQ4
import Derived.Test.YtkfndaebmbnmaaaQ2
namespace Go.Proofs.Ytkfndaebmbnmaaa
theorem mxK_ge (l : List Int) : ∀ {n k : Nat}, k < n → gi l k ≤ mxK l n
  | 0, k, h => by omega
  | n + 1, k, h => by
    rw [mxK]
    by_cases e : k = n
    · subst e; omega
    · have := mxK_ge l (n := n) (k := k) (by omega); omega
theorem mxL_ge {l : List Int} {x : Int} (h : x ∈ l) : x ≤ mxL l := by
  obtain ⟨k, hk, e⟩ := List.getElem_of_mem h
  have h1 := mxK_ge l hk
  have h2 : gi l k = x := by simp [gi, hk, e]
  rw [h2] at h1; exact h1
theorem innK_nodup (l : List Grp) (all : Nat) : ∀ k, (innK l all k).Nodup
  | 0 => List.nodup_nil
  | k + 1 => by
    have ih := innK_nodup l all k
    unfold innK
    split
    · rename_i hc
      rw [List.nodup_append]
      refine ⟨ih, by simp, fun a ha b hb e => ?_⟩
      obtain rfl : b = ofS (gg l k).src := by simpa using hb
      subst e; exact hc.2.2 ha
    · exact ih
/-- What groups have that Tree does not refuse. -/
structure ShOk (names : List ByteArray) (l : List Grp) : Prop where
  pos : 0 < names.length
  le : names.length ≤ 32
  nm : ∀ k, k < names.length → namedB (gs names k).data.toList = true
  nd : ∀ j k, j < k → k < names.length → gs names k ≠ gs names j
  gc : gcErr l = 0
  far : ∀ k, k < l.length → ∀ x ∈ (gg l k).src, x < names.length
  cf : ∀ i k, i < k → k < l.length → confB (ofS (gg l i).src) (ofS (gg l k).src) = false
theorem shErr_ok {names : List ByteArray} {l : List Grp} (h : shErr names l = 0) : ShOk names l := by
  unfold shErr at h
  split at h
  · cases h
  · rename_i h1
    split at h
    · cases h
    · rename_i h2
      split at h
      · rename_i h3; exact absurd h h3
      · rename_i h3
        have h3 : firstNZ (nmErr names) names.length = 0 := by
          by_cases e : firstNZ (nmErr names) names.length = 0
          · exact e
          · exact absurd e h3
        split at h
        · rename_i h4; exact absurd h h4
        · rename_i h4
          have h4 : gcErr l = 0 := by
            by_cases e : gcErr l = 0
            · exact e
            · exact absurd e h4
          split at h
          · cases h
          · rename_i h5
            split at h
            · cases h
            · rename_i h6
              have h6 : cfL l = [] := by
                by_cases e : cfL l = []
                · exact e
                · exact absurd e h6
              have hnm : ∀ k, k < names.length → namedB (gs names k).data.toList = true ∧ ((List.range k).any fun j => decide (gs names k = gs names j)) = false := fun k hk => by
                have := firstNZ_eq_zero h3 k hk
                unfold nmErr at this
                split at this
                · cases this
                · rename_i q1
                  split at this
                  · cases this
                  · rename_i q2
                    exact ⟨by simpa using q1, by simpa using q2⟩
              have h5 : farB l names.length = false := by simpa using h5
              unfold cfL at h6
              rw [if_pos h4] at h6
              refine ⟨by omega, by omega, fun k hk => (hnm k hk).1, fun j k hj hk => by
                have := any_false (hnm k hk).2 hj
                simpa using this, h4, fun k hk x hx => ?_, fun i k hik hk => ?_⟩
              · have h7 := any_false h5 hk
                have h8 := mxL_ge hx
                have h9 : ¬ ((names.length : Int) ≤ mxL (gg l k).src) := by simpa using h7
                omega
              · cases hc : confB (ofS (gg l i).src) (ofS (gg l k).src) with
                | false => rfl
                | true =>
                  exfalso
                  have hm : [(i : Int), (k : Int)] ∈ cfK l l.length := by
                    unfold cfK cfRow
                    refine List.mem_flatMap.2 ⟨i, List.mem_range.2 (by omega), List.mem_map.2 ⟨k, List.mem_filter.2 ⟨List.mem_range.2 hk, ?_⟩, rfl⟩⟩
                    unfold cfB
                    simp [hik, hc]
                  rw [h6] at hm; cases hm
section
variable {names : List ByteArray} {l : List Grp}
theorem ShOk.small (h : ShOk names l) {k : Nat} (hk : k < l.length) : Small (gg l k).src := (srcOk_small ((gcErr_zero h.gc).2 k hk).2.2.2).1
theorem ShOk.bits (h : ShOk names l) {k : Nat} (hk : k < l.length) {i : Nat} : (ofS (gg l k).src).testBit i = true ↔ (i : Int) ∈ (gg l k).src := testBit_ofS (h.small hk) i
theorem two_bits {n x a b : Nat} (hab : a ≠ b) (ha : a ∈ bitsN n x) (hb : b ∈ bitsN n x) : 2 ≤ (bitsN n x).length := by
  have h1 : [a, b].Nodup := by simp [hab]
  have h2 : [a, b] ⊆ bitsN n x := fun y hy => by
    rcases List.mem_cons.1 hy with e | hy
    · rw [e]; exact ha
    · have e : y = b := by simpa using hy
      rw [e]; exact hb
  have := h1.length_le_of_subset h2
  simpa using this
theorem conf_cases {a b : Nat} (h : confB a b = false) : withinB a b = true ∨ withinB b a = true ∨ a &&& b = 0 := by
  unfold confB at h
  by_cases e : a &&& b = 0
  · exact .inr (.inr e)
  · cases h1 : withinB a b
    · cases h2 : withinB b a
      · rw [h1, h2] at h; simp [e] at h
      · exact .inr (.inl rfl)
    · exact .inl rfl
theorem ShOk.lam (h : ShOk names l) : Lam (innL l (allN names.length)) names.length := by
  refine ⟨fun y hy => ?_, fun y hy i hi => ?_, fun y hy => ?_, fun y hy z hz => ?_, innK_nodup _ _ _⟩
  · obtain ⟨j, hj, rfl, _⟩ := innK_mem hy
    exact ofS_u64 (h.small hj)
  · obtain ⟨j, hj, rfl, _⟩ := innK_mem hy
    have := h.far j hj _ ((h.bits hj).1 hi); omega
  · obtain ⟨j, hj, rfl, h1, _⟩ := innK_mem hy
    obtain ⟨hs, _, hm⟩ := srcOk_small ((gcErr_zero h.gc).2 j hj).2.2.2
    obtain ⟨a, ha, _⟩ := small_mem hs (gi_mem (l := (gg l j).src) (k := 0) (by omega))
    obtain ⟨b, hb, _⟩ := small_mem hs (gi_mem (l := (gg l j).src) (k := 1) h1)
    have h2 := hm 1 (by omega) h1
    have hma : (a : Int) ∈ (gg l j).src := by rw [← ha]; exact gi_mem (by omega)
    have hmb : (b : Int) ∈ (gg l j).src := by rw [← hb]; exact gi_mem h1
    refine two_bits (a := a) (b := b) (by
      have e : (1 : Nat) - 1 = 0 := rfl
      rw [e, ha, hb] at h2; omega) (mem_bitsN.2 ⟨?_, (h.bits hj).2 hma⟩) (mem_bitsN.2 ⟨?_, (h.bits hj).2 hmb⟩)
    · have := h.far j hj _ hma; omega
    · have := h.far j hj _ hmb; omega
  · obtain ⟨j, hj, rfl, _⟩ := innK_mem hy
    obtain ⟨k, hk, rfl, _⟩ := innK_mem hz
    rcases Nat.lt_trichotomy j k with e | e | e
    · exact conf_cases (h.cf j k e hk)
    · subst e
      exact .inl ((withinB_iff (ofS_u64 (h.small hj)) (ofS_u64 (h.small hj))).2 fun i hi => hi)
    · rcases conf_cases (h.cf k j e hj) with q | q | q
      · exact .inr (.inl q)
      · exact .inl q
      · exact .inr (.inr (by rw [Nat.and_comm]; exact q))
theorem all_bits (n : Nat) : bitsN n (allN n) = List.range n := by
  unfold bitsN allN
  rw [List.filter_eq_self]
  intro i hi
  have : i < n := List.mem_range.1 hi
  rw [Nat.testBit_two_pow_sub_one]; simpa using this
/-- The rose tree of the groups. -/
def shR (names : List ByteArray) (l : List Grp) : RT := growR names (innL l (allN names.length)) (allN names.length + 1) (allN names.length)
theorem range_gs (names : List ByteArray) : (List.range names.length).map (gs names) = names := by
  refine List.ext_getElem (by simp) fun i h1 h2 => ?_
  simp [gs, h2]
theorem shR_ok (h : ShOk names l) (h2 : 2 ≤ names.length) : (leafR (shR names l)).Perm names ∧ ∀ s ∈ subR (shR names l), PartOk s := by
  have hall : U64 (allN names.length) := by have := all_lt h.le; unfold U64; omega
  have := growR_ok (inner := innL l (allN names.length)) h.le h.nm h.lam (allN names.length + 1) (allN names.length) (by omega) hall (fun i hi => by
    unfold allN at hi
    rw [Nat.testBit_two_pow_sub_one] at hi; simpa using hi) (by rw [all_bits]; simpa using h2)
  rw [all_bits, range_gs] at this
  exact this
theorem names_nodup (h : ShOk names l) : names.Nodup := by
  unfold List.Nodup
  rw [List.pairwise_iff_getElem]
  intro i j hi hj hij e
  have := h.nd i j hij hj
  simp [gs, hi, hj] at this
  exact this e.symm
theorem shR_good (h : ShOk names l) (h2 : 2 ≤ names.length) : GoodR (shR names l) := by
  obtain ⟨h3, h4⟩ := shR_ok h h2
  exact ⟨fun s hs hk => (h4 s hs).1 hk, fun s hs hk => (h4 s hs).2.1 hk, h3.nodup_iff.2 (names_nodup h)⟩
theorem shR_size (h : ShOk names l) (h2 : 2 ≤ names.length) : sizeR (shR names l) + 1 ≤ 2 * names.length := by
  obtain ⟨h3, h4⟩ := shR_ok h h2
  have := size_le _ h4
  rw [h3.length_eq] at this; exact this
theorem rawT_R (h : ShOk names l) : rawT names l = flat (shR names l) := rawT_flat names l h.le h.gc
theorem rawT_valid (h : ShOk names l) (h2 : 2 ≤ names.length) : treeErr (rawT names l) = 0 := by
  rw [rawT_R h]
  have := shR_size h h2
  have := h.le
  exact treeErr_flat (shR_good h h2) (by omega)
/-- The bound that shTree_t asks. -/
theorem rawT_small (h : ShOk names l) (h2 : 2 ≤ names.length) : (rawT names l).ps.length ≤ 63 := by
  rw [rawT_R h, flat_ps]
  have := shR_size h h2
  have := h.le
  omega
/-- The tree of Tree: the sorted rose tree, numbered. -/
theorem shTree_two (h : shErr names l = 0) (h2 : 2 ≤ names.length) : shTree names l = flat (sortR (shR names l)) ∧ shRes names l = 0 := by
  have hk := shErr_ok h
  have hv := rawT_valid hk h2
  unfold shTree shRes
  rw [if_neg (by simp [h]), if_neg (by omega), if_pos hv, if_neg (by simp [h]), if_neg (by omega), if_pos hv, canT_flat hv, rawT_R hk, toR_flat]
  exact ⟨rfl, rfl⟩
end
end Go.Proofs.Ytkfndaebmbnmaaa
namespace Go.Proofs.Ytkfndaebmbnmaaa
/-- Below the root: a leaf, or the part of a set. -/
theorem subs_grow (names : List ByteArray) (inner : List Nat) : ∀ (d x : Nat) (q : RT), (∀ y ∈ inner, U64 y) → U64 x → x < d → q ∈ subRs (growR names inner d x).kids →
    (∃ i, i < names.length ∧ q = .node (gs names i) []) ∨ ∃ y e, y ∈ inner ∧ y < e ∧ q = growR names inner e y
  | 0, _, _, _, _, h, _ => by omega
  | d + 1, x, q, hu, hx, hd, h => by
    rw [growR] at h
    have h : q ∈ subRs ((kidsX inner x).map (growR names inner d) ++ leavesN names (leftX inner x) names.length) := h
    rw [subRs_flat, List.flatMap_append, List.mem_append] at h
    rcases h with h | h
    · obtain ⟨k, hk, hq⟩ := List.mem_flatMap.1 h
      obtain ⟨y, hy, rfl⟩ := List.mem_map.1 hk
      obtain ⟨hy1, hy2⟩ := List.mem_filter.1 hy
      have hlt := isKid_lt hx (hu y hy1) hy2
      cases hg : growR names inner d y with
      | node nm ks =>
        rw [hg, subR, List.mem_cons] at hq
        rcases hq with rfl | hq
        · exact .inr ⟨y, d, hy1, by omega, hg.symm⟩
        · refine subs_grow names inner d y q hu (hu y hy1) (by omega) ?_
          rw [hg]; exact hq
    · obtain ⟨k, hk, hq⟩ := List.mem_flatMap.1 h
      unfold leavesN at hk
      obtain ⟨i, hi, rfl⟩ := List.mem_map.1 hk
      have hi2 : i < names.length := List.mem_range.1 (List.mem_filter.1 hi).1
      unfold leafN at hq
      rw [subR, subRs] at hq
      exact .inl ⟨i, hi2, by simpa using hq⟩
theorem withinB_trans {a b c : Nat} (ha : U64 a) (hb : U64 b) (hc : U64 c) (h1 : withinB a b = true) (h2 : withinB b c = true) : withinB a c = true :=
  (withinB_iff ha hc).2 fun i hi => (withinB_iff hb hc).1 h2 i ((withinB_iff ha hb).1 h1 i hi)
/-- A set within x, and not x, lies within a child of x. -/
theorem kid_above {inner : List Nat} {x : Nat} (hu : ∀ y ∈ inner, U64 y) (hx : U64 x) : ∀ (m y : Nat), x - y ≤ m → y ∈ inner → withinB y x = true → y ≠ x → ∃ z ∈ kidsX inner x, withinB y z = true := by
  intro m
  induction m with
  | zero =>
    intro y hm hy hw hne
    have := within_le (hu y hy) hx hw
    omega
  | succ m ih =>
    intro y hm hy hw hne
    by_cases hk : isKid inner x y = true
    · exact ⟨y, List.mem_filter.2 ⟨hy, hk⟩, (withinB_iff (hu y hy) (hu y hy)).2 fun _ h => h⟩
    · unfold isKid at hk
      rw [decide_eq_true hne, hw, Bool.true_and, Bool.true_and] at hk
      have hk : ((List.range inner.length).any fun j => midB x y (gn inner j)) = true := by simpa using hk
      obtain ⟨j, hj, hmid⟩ := List.any_eq_true.1 hk
      have hj : j < inner.length := List.mem_range.1 hj
      have hz := gn_mem hj
      generalize gn inner j = z at *
      unfold midB at hmid
      simp only [Bool.and_eq_true, decide_eq_true_eq] at hmid
      obtain ⟨⟨⟨a1, a2⟩, a3⟩, a4⟩ := hmid
      have h1 := within_le (hu y hy) (hu z hz) a4
      have h2 := within_le (hu z hz) hx a3
      obtain ⟨q, hq, hzq⟩ := ih z (by omega) hz a3 a1
      exact ⟨q, hq, withinB_trans (hu y hy) (hu z hz) (hu q (List.mem_filter.1 hq).1) a4 hzq⟩
/-- Each set has a part. -/
theorem set_part {names : List ByteArray} {inner : List Nat} (hu : ∀ y ∈ inner, U64 y) : ∀ (d x y : Nat), x < d → U64 x → y ∈ inner → withinB y x = true → ∃ e, y < e ∧ growR names inner e y ∈ subR (growR names inner d x)
  | 0, _, _, h, _, _, _ => by omega
  | d + 1, x, y, hd, hx, hy, hw => by
    by_cases e : y = x
    · subst e
      refine ⟨d + 1, hd, ?_⟩
      rw [growR, subR]; simp
    · obtain ⟨z, hz, hyz⟩ := kid_above hu hx _ y (Nat.le_refl _) hy hw e
      obtain ⟨hz1, hz2⟩ := List.mem_filter.1 hz
      have hlt := isKid_lt hx (hu z hz1) hz2
      obtain ⟨f, hf, hm⟩ := set_part (names := names) hu d z y (by omega) (hu z hz1) hy hyz
      refine ⟨f, hf, ?_⟩
      rw [growR, subR]
      refine List.mem_cons_of_mem _ ?_
      rw [subRs_flat, List.flatMap_append, List.mem_append]
      exact .inl (List.mem_flatMap.2 ⟨_, List.mem_map.2 ⟨z, hz, rfl⟩, hm⟩)
theorem leaf_part {r : RT} {nm : ByteArray} (h : ∀ s ∈ subR r, PartOk s) (hn : nm ∈ leafR r) : .node nm [] ∈ subR r := by
  obtain ⟨h1, h2⟩ := List.mem_filter.1 hn
  rw [nsR_sub] at h1
  obtain ⟨s, hs, hsn⟩ := List.mem_map.1 h1
  have h3 := (h s hs).1
  cases s with
  | node m ks =>
    have hm : m = nm := hsn
    subst hm
    cases ks with
    | nil => exact hs
    | cons k ks =>
      have := h3 (by simp [RT.kids])
      have h2 : m.size ≠ 0 := by simpa using h2
      exact absurd this h2
/-- A sorted list of sources is the list of the bits of its set. -/
theorem src_bits {l : List Int} {n : Nat} (h : srcOk l = true) (hn : ∀ x ∈ l, x < n) : l = (bitsN n (ofS l)).map Int.ofNat := by
  obtain ⟨hs, _, hm⟩ := srcOk_small h
  have asc : ∀ k, k < l.length → ∀ j, j < k → gi l j < gi l k := by
    intro k
    induction k with
    | zero => intro _ j hj; omega
    | succ k ih =>
      intro hk j hj
      have h1 := hm (k + 1) (by omega) hk
      rw [Nat.add_sub_cancel] at h1
      by_cases e : j = k
      · subst e; exact h1
      · have := ih (by omega) j (by omega); omega
  have p1 : l.Pairwise (· < ·) := by
    rw [List.pairwise_iff_getElem]
    intro i j hi hj hij
    have := asc j hj i hij
    simpa [gi, hi, hj] using this
  have p2 : ((bitsN n (ofS l)).map Int.ofNat).Pairwise (· < ·) := by
    rw [List.pairwise_map]
    refine (List.Pairwise.filter _ List.pairwise_lt_range).imp fun h => ?_
    exact Int.ofNat_lt.2 h
  have hmem : ∀ x, x ∈ l ↔ x ∈ (bitsN n (ofS l)).map Int.ofNat := by
    intro x
    constructor
    · intro hx
      obtain ⟨i, rfl, _⟩ := small_mem hs hx
      exact List.mem_map.2 ⟨i, mem_bitsN.2 ⟨by have := hn _ hx; omega, (testBit_ofS hs i).2 hx⟩, rfl⟩
    · intro hx
      obtain ⟨i, hi, rfl⟩ := List.mem_map.1 hx
      exact (testBit_ofS hs i).1 (mem_bitsN.1 hi).2
  have nd : ∀ {q : List Int}, q.Pairwise (· < ·) → q.Nodup := fun h => h.imp fun h => by omega
  have hp : l.Perm ((bitsN n (ofS l)).map Int.ofNat) := (List.perm_ext_iff_of_nodup (nd p1) (nd p2)).2 hmem
  exact List.Perm.eq_of_pairwise (le := fun a b : Int => a < b) (fun a b _ _ h1 h2 => by omega) p1 p2 hp
theorem bits_asc (n x : Nat) : (bitsN n x).Pairwise (· < ·) := List.Pairwise.filter _ List.pairwise_lt_range
end Go.Proofs.Ytkfndaebmbnmaaa
namespace Go.Proofs
open Go.Shelf
def Try.sortS_ren : Go.Shelf.Ren := ⟨fun | 190 => 38 | 125 => 70 | 258 => 69 | 128 => 93 | 129 => 94 | 302 => 84 | 303 => 85 | 304 => 86 | 305 => 87 | 306 => 88 | 307 => 89 | 308 => 90 | 309 => 91 | 310 => 92 | 333 => 102 | 329 => 103 | 330 => 104 | 334 => 105 | 335 => 106 | 336 => 107 | 344 => 123 | n => n, fun | 31 => 53 | 9 => 9 | 3 => 3 | 46 => 89 | 0 => 0 | 51 => 115 | 53 => 69 | 4 => 4 | 183 => 108 | 182 => 107 | 131 => 92 | 5 => 5 | 218 => 129 | 222 => 133 | 228 => 144 | 229 => 145 | n => n, fun | n => n⟩
theorem Try.sortS : Go.Proofs.Lays.n190 Try.prog Try.sortS_ren := {
  mixed := by kernel_rfl
  f125 := Try.func70.trans (congrArg some (by kernel_rfl))
  f128 := Try.func93.trans (congrArg some (by kernel_rfl))
  f129 := Try.func94.trans (congrArg some (by kernel_rfl))
  f190 := Try.func38.trans (congrArg some (by kernel_rfl))
  f258 := Try.func69.trans (congrArg some (by kernel_rfl))
  f302 := Try.func84.trans (congrArg some (by kernel_rfl))
  f303 := Try.func85.trans (congrArg some (by kernel_rfl))
  f304 := Try.func86.trans (congrArg some (by kernel_rfl))
  f305 := Try.func87.trans (congrArg some (by kernel_rfl))
  f306 := Try.func88.trans (congrArg some (by kernel_rfl))
  f307 := Try.func89.trans (congrArg some (by kernel_rfl))
  f308 := Try.func90.trans (congrArg some (by kernel_rfl))
  f309 := Try.func91.trans (congrArg some (by kernel_rfl))
  f310 := Try.func92.trans (congrArg some (by kernel_rfl))
  f329 := Try.func103.trans (congrArg some (by kernel_rfl))
  f330 := Try.func104.trans (congrArg some (by kernel_rfl))
  f333 := Try.func102.trans (congrArg some (by kernel_rfl))
  f334 := Try.func105.trans (congrArg some (by kernel_rfl))
  f335 := Try.func106.trans (congrArg some (by kernel_rfl))
  f336 := Try.func107.trans (congrArg some (by kernel_rfl))
  f344 := Try.func123.trans (congrArg some (by kernel_rfl))
  t0 := Try.underlying0
  a0 := Try.isAgg0
  z0 := Try.sizeOf0
  v0 := Try.zeroValue0
  t3 := Try.underlying3
  a3 := Try.isAgg3
  z3 := Try.sizeOf3
  v3 := Try.zeroValue3
  t4 := Try.underlying4
  a4 := Try.isAgg4
  z4 := Try.sizeOf4
  v4 := Try.zeroValue4
  t5 := Try.underlying5
  a5 := Try.isAgg5
  z5 := Try.sizeOf5
  v5 := Try.zeroValue5
  t9 := Try.underlying9
  a9 := Try.isAgg9
  z9 := Try.sizeOf9
  v9 := Try.zeroValue9
  t31 := Try.underlying53
  a31 := Try.isAgg53
  z31 := Try.sizeOf53
  v31 := Try.zeroValue53
  t46 := Try.underlying89
  a46 := Try.isAgg89
  z46 := Try.sizeOf89
  v46 := Try.zeroValue89
  t51 := Try.underlying115
  a51 := Try.isAgg115
  z51 := Try.sizeOf115
  v51 := Try.zeroValue115
  t53 := Try.underlying69
  a53 := Try.isAgg69
  z53 := Try.sizeOf69
  v53 := Try.zeroValue69
  t131 := Try.underlying92
  a131 := Try.isAgg92
  z131 := Try.sizeOf92
  v131 := Try.zeroValue92
  t182 := Try.underlying107
  a182 := Try.isAgg107
  z182 := Try.sizeOf107
  v182 := Try.zeroValue107
  t183 := Try.underlying108
  a183 := Try.isAgg108
  z183 := Try.sizeOf108
  v183 := Try.zeroValue108
  t218 := Try.underlying129
  a218 := Try.isAgg129
  z218 := Try.sizeOf129
  v218 := Try.zeroValue129
  t222 := Try.underlying133
  a222 := Try.isAgg133
  z222 := Try.sizeOf133
  v222 := Try.zeroValue133
  t228 := Try.underlying144
  a228 := Try.isAgg144
  z228 := Try.sizeOf144
  v228 := Try.zeroValue144
  t229 := Try.underlying145
  a229 := Try.isAgg145
  z229 := Try.sizeOf145
  v229 := Try.zeroValue145 }
end Go.Proofs
namespace Go.Proofs.Ytkfndaebmbnmaaa
open Go.RowKit Go.Sort Go.Shelf Go.Deep
def ofL (l : List UInt8) : ByteArray := ⟨l.toArray⟩
def toL (b : ByteArray) : List UInt8 := b.data.toList
theorem ofL_toL (b : ByteArray) : ofL (toL b) = b := by cases b; simp [ofL, toL]
theorem toL_ofL (l : List UInt8) : toL (ofL l) = l := by simp [ofL, toL]
def srtL (ss : List (List UInt8)) : List (List UInt8) := ss.mergeSort fun x y => decide (x ≤ y)
/-- The strings, sorted. -/
def sortS (xs : List ByteArray) : List ByteArray := (srtL (xs.map toL)).map ofL
theorem sortS_len (xs : List ByteArray) : (sortS xs).length = xs.length := by unfold sortS srtL; rw [List.length_map, List.length_mergeSort, List.length_map]
theorem enc_map (ss : List (List UInt8)) : ss.map encStr = (ss.map ofL).map Value.string := by rw [List.map_map]; rfl
theorem enc_map' (xs : List ByteArray) : (xs.map toL).map encStr = xs.map Value.string := by
  rw [List.map_map]
  refine List.map_congr_left fun b _ => ?_
  show Value.string (ofL (toL b)) = _
  rw [ofL_toL]
set_option maxRecDepth 100000 in
theorem sort_str_t (w w1 : World) (v : Value) (xs : List ByteArray) (hu : Up w w1) (ho : Owns w.heap.size 9 w1 v (xs.map Value.string)) (hlen : xs.length ≤ 1000000) :
    Calls Try.prog 38 #[v] w1 fun e w' => e = .returned (.tuple #[]) ∧ Up w w' ∧ Owns w.heap.size 9 w' v ((sortS xs).map Value.string) := by
  rcases ho.2 with ⟨rfl, h0⟩ | ⟨g, cap, cur, rfl, hg, hc, hn, hcm, hcs, ht⟩
  · have hx : xs = [] := by cases xs with | nil => rfl | cons _ _ => simp at h0
    subst hx
    refine (Any.slices_Sort_string_none Try.sortS none 0 w1).mono ?_
    rintro e w' ⟨rfl, rfl⟩
    exact ⟨rfl, hu, by unfold sortS srtL; simpa using ho⟩
  · simp only [List.length_map] at hn ht ho ⊢
    have hln : (xs.map toL).length = xs.length := List.length_map _
    have hH : Holds encStr w1 g 0 (xs.map toL).toArray := holds_of_block hc (by rw [enc_map', hln]; simpa using ht)
    have hS := Any.slices_Sort_string Try.sortS g 0 cap (xs.map toL) w1 hH (Array.getElem?_eq_some_iff.1 hc).1 (by rw [hln]; omega)
    rw [hln] at hS
    refine hS.mono ?_
    rintro e w' ⟨rfl, n, os, rfl⟩
    refine ⟨rfl, Below.grown hu (grownBy_sorted _) hu.size (fun j hj => by cases hj; exact hg), ?_⟩
    have h := ownsRow_sorted (n := n) (os := os) (ss := xs.map toL) (ts := srtL (xs.map toL)) (List.length_mergeSort _) hg hc (by rw [hln]; exact hn) hcm (by simpa using hcs)
    unfold Owns
    rw [List.length_map, sortS_len]
    rw [hln, enc_map] at h
    exact h
end Go.Proofs.Ytkfndaebmbnmaaa
namespace Go.Proofs.Ytkfndaebmbnmaaa
open Go.RowKit Go.Deep
/-- The name of number i. -/
def nmLt (i : Nat) : ByteArray := ⟨#[UInt8.ofNat (65 + i)]⟩
def namesA (n : Nat) : List ByteArray := (List.range n).map nmLt
theorem namesA_succ (n : Nat) : namesA (n + 1) = namesA n ++ [nmLt n] := by unfold namesA; rw [List.range_succ, List.map_append]; rfl
theorem namesA_len (n : Nat) : (namesA n).length = n := by simp [namesA]
def NmPost (w : World) (n : Nat) (e : Ending) (w' : World) : Prop := Up w w' ∧ ∃ v, e = .returned v ∧ Owns w.heap.size 9 w' v ((namesA n).map Value.string)
set_option maxRecDepth 100000 in
set_option maxHeartbeats 1000000 in
theorem names_t (w : World) (n : Nat) (hn : n ≤ 64) : Calls Try.prog 35 #[.int .i64 n] w (NmPost w n) := by
  have i0 : (0 : Int) ≤ (n : Int) := by omega
  go_enter Try.func35, Try.ntmps35
  go_wp2_with fail
  go_loopw [3, 4, 6] (fun d _ i wr => ∃ k : Nat, k ≤ n ∧ i = .int .i64 k ∧ Hid (Owns w.heap.size 9 wr d ((namesA k).map Value.string)) ∧ Hid (Up w wr)) (fun _ _ i _ => n - (intOf i).toNat)
  case atStart => exact ⟨0, Nat.zero_le _, rfl, Owns.nil _ _ _, Up.refl _⟩
  case round =>
    obtain ⟨k, hk, rfl, hD, hU⟩ := hrel
    obtain ⟨wo, rfl⟩ : ∃ wo : World, wo = wr := ⟨_, rfl⟩
    obtain ⟨d, rfl⟩ : ∃ d : Value, d = u3 := ⟨_, rfl⟩
    by_cases hlt : k < n
    · have i1 : (0 : Int) ≤ (k : Int) := by omega
      have i2 : (k : Int) < (n : Int) := by omega
      have d1 : decide ((k : Int) < (n : Int)) = true := by simp; omega
      have hcv : (convert 85 9 (.slice (some ⟨wo.heap.size, 0, none⟩) 1 1)).run Try.prog (wo.alloc (.cells #[.int .u8 (65 + (k : Int))] 5)) = .ok (.string (nmLt k)) (wo.alloc (.cells #[.int .u8 (65 + (k : Int))] 5)) :=
        run_convert_bytes_back _ 85 9 5 ⟨wo.heap.size, 0, none⟩ 1 [UInt8.ofNat (65 + k)] Try.underlying85 Try.underlying5 Try.underlying9 (fun j hj => by
          obtain rfl : j = 0 := by simp at hj; omega
          show (wo.alloc _).cell? ⟨wo.heap.size, 0, none⟩ = _
          rw [box1_0]
          have e : (UInt8.ofNat (65 + k)).toNat = 65 + k := by simp; omega
          show some (Value.int .u8 (65 + (k : Int))) = some (Value.int .u8 (((UInt8.ofNat (65 + k)).toNat : Nat) : Int))
          rw [e]; rfl)
      have HSN := Lib.hid (namesA_succ k)
      have hal := Up.alloc wo (.cells #[.int .u8 (65 + (k : Int))] 5)
      have HUA := Lib.hid (hU.out.trans hal)
      have HDA := Lib.hid (hD.out.kept fun b _ hb => Below.block hal b hb)
      have HLN : Hid (((namesA k).map Value.string).length = k) := by unfold Hid; rw [List.length_map, namesA_len]
      have hsz : (wo.alloc (.cells #[.int .u8 (65 + (k : Int))] 5)).heap.size = wo.heap.size + 1 := World.size_alloc _ _
      have hwz : w.heap.size ≤ (wo.alloc (.cells #[.int .u8 (65 + (k : Int))] 5)).heap.size := HUA.out.size
      clear hal
      go_wp2_with (at_builtin; refine wpList_appM (wo.alloc (.cells #[.int .u8 (65 + (k : Int))] 5)) rfl _ _ 53 rfl w.heap.size 9 (.string ⟨#[]⟩) 16 Try.underlying53 Try.infoStr2 rfl (by decide) HDA.out rfl (.string (nmLt k)) _ hsz rfl rfl k HLN.out (by omega) hwz ?_; intro g8 cap8 w8 hown1 hgr1 hbe1)
      go_roundw
      case rel => exact ⟨k + 1, by omega, by go_num, by unfold Hid; rw [HSN.out, List.map_append]; exact hown1, Below.trans HUA.out hbe1⟩
      case measure => simp [intOf]; omega
    · obtain rfl : k = n := by omega
      have d1 : decide ((k : Int) < (k : Int)) = false := by simp
      go_wp2_with fail
      go_ret
      exact ⟨hU.out, _, rfl, hD.out⟩
end Go.Proofs.Ytkfndaebmbnmaaa
namespace Go.Proofs.Ytkfndaebmbnmaaa
open Go.RowKit Go.Deep
/-- Equal strings, one by one. -/
theorem strs_ext {xs ys : List ByteArray} (hl : xs.length = ys.length) (h : ∀ j, j < xs.length → gs xs j = gs ys j) : xs = ys := by
  refine List.ext_getElem hl fun i h1 h2 => ?_
  have := h i h1
  simpa [gs, h1, h2] using this
set_option maxRecDepth 100000 in
set_option maxHeartbeats 400000 in
theorem equal_str_t (S T : Nat → Prop) (w : World) (v u : Value) (xs ys : List ByteArray) (h : StrsAt S w v xs) (h2 : StrsAt T w u ys) (hn : xs.length ≤ 1000000) (hn2 : ys.length ≤ 1000000) :
    Calls Try.prog 39 #[v, u] w (EqPost w (decide (xs = ys))) := by
  obtain ⟨p, cap, rfl, hcap, _⟩ := SlAt.open h
  obtain ⟨q, cap2, rfl, hcap2, _⟩ := SlAt.open h2
  have HX : Hid (StrsAt S w (.slice p xs.length cap) xs) := h
  have HY : Hid (StrsAt T w (.slice q ys.length cap2) ys) := h2
  clear h h2
  by_cases hl : xs.length = ys.length
  · have hl1 : ((xs.length : Int) != ys.length) = false := by simp [hl]
    have HL := Lib.hid hl
    clear hl
    go_enter Try.func39, Try.ntmps39
    go_wp2_with fail
    go_loopw [5, 13] (fun _ i wr => ∃ k n : Nat, k ≤ xs.length ∧ i = .int .i64 k ∧ wr = w.drewN n ∧ Hid (∀ j, j < k → gs xs j = gs ys j)) (fun _ i _ => xs.length - (intOf i).toNat)
    case atStart => exact ⟨0, 0, Nat.zero_le _, rfl, rfl, fun j hj => absurd hj (Nat.not_lt_zero _)⟩
    case round =>
      obtain ⟨k, n, hk, rfl, rfl, hd⟩ := hrel
      by_cases hlt : k < xs.length
      · have hlt2 : k < ys.length := by rw [← HL.out]; exact hlt
        obtain ⟨b, off, rfl, hc⟩ := strs_get HX.out hlt
        obtain ⟨b2, off2, rfl, hc2⟩ := strs_get HY.out hlt2
        have i1 : (0 : Int) ≤ (k : Int) := by omega
        have i2 : (k : Int) < (xs.length : Int) := by omega
        have i3 : (k : Int) < (ys.length : Int) := by omega
        generalize hx : gs xs k = x at *
        generalize hy : gs ys k = y at *
        have HXX := Lib.hid hx
        have HYY := Lib.hid hy
        clear hx hy
        by_cases hxy : x = y
        · have hxy0 : (x.toList == y.toList) = true := by simp [hxy]
          have hxy1 : (x.toList != y.toList) = false := by simp [hxy]
          have HXY := Lib.hid hxy
          clear hxy
          go_wp2_with fail
          go_quiet (fail)
          go_wp2_with fail
          go_roundw
          case rel => exact ⟨k + 1, n + nq, by omega, by go_num, rfl, fun j hj => if e : j = k then by subst e; rw [HXX.out, HYY.out, HXY.out] else hd.out j (by omega)⟩
          case measure => simp [intOf]; omega
        · have hxy0 : (x.toList == y.toList) = false := by
            cases h : (x.toList == y.toList) with
            | false => rfl
            | true => exact absurd (str_yes h) hxy
          have hxy1 : (x.toList != y.toList) = true := by unfold bne; rw [hxy0]; rfl
          have HXY := Lib.hid hxy
          clear hxy
          go_wp2_with fail
          go_quiet (fail)
          go_wp2_with fail
          go_ret
          refine ⟨ret_bool ?_, n + nq, by rw [World.drewN_drewN]⟩
          rw [eq_comm, decide_eq_false_iff_not]
          rintro rfl
          exact HXY.out (by rw [← HXX.out, ← HYY.out])
      · obtain rfl : k = xs.length := by omega
        clear hlt hk
        have hex : xs = ys := strs_ext HL.out hd.out
        have HEX : Hid (decide (xs = ys) = true) := decide_eq_true hex
        clear hex
        go_wp2_with fail
        go_ret
        exact ⟨ret_bool (by rw [HEX.out]), n, rfl⟩
  · have hl1 : ((xs.length : Int) != ys.length) = true := by simp; omega
    have HL := Lib.hid hl
    clear hl
    go_enter Try.func39, Try.ntmps39
    go_wp2_with fail
    go_ret
    refine ⟨ret_bool ?_, 0, rfl⟩
    rw [eq_comm, decide_eq_false_iff_not]
    rintro rfl
    exact HL.out rfl
end Go.Proofs.Ytkfndaebmbnmaaa
namespace Go.Proofs.Ytkfndaebmbnmaaa
theorem nmLt_named : ∀ i, i < 10 → namedB (nmLt i).data.toList = true := by decide +kernel
theorem nmLt_inj : ∀ i, i < 10 → ∀ j, j < 10 → nmLt i = nmLt j → i = j := by decide +kernel
theorem gs_namesA {n k : Nat} (h : k < n) : gs (namesA n) k = nmLt k := by simp [gs, namesA, h]
theorem namesA_err {n : Nat} (hn : n ≤ 10) : firstNZ (nmErr (namesA n)) (namesA n).length = 0 := by
  refine firstNZ_zero fun k hk => ?_
  rw [namesA_len] at hk
  unfold nmErr
  rw [gs_namesA hk, if_neg (by rw [nmLt_named k (by omega)]; decide), if_neg]
  intro e
  obtain ⟨j, hj, e⟩ := List.any_eq_true.1 e
  have hj : j < k := List.mem_range.1 hj
  rw [gs_namesA (show j < n by omega)] at e
  have := nmLt_inj k (by omega) j (by omega) (of_decide_eq_true e)
  omega
/-- Why there is no tree. -/
theorem shErr_A {n : Nat} {l : List Grp} (h0 : 0 < n) (hn : n ≤ 10) (hg : gcErr l = 0) : shErr (namesA n) l = 0 ∨ shErr (namesA n) l = 2 ∨ shErr (namesA n) l = 17 := by
  unfold shErr
  have hl := namesA_len n
  rw [if_neg (by omega), if_neg (by omega), if_neg (by rw [namesA_err hn]; simp), if_neg (by rw [hg]; simp)]
  split
  · exact .inr (.inl rfl)
  · split
    · exact .inr (.inr rfl)
    · exact .inl rfl
section
variable {names : List ByteArray} {l : List Grp}
theorem PartOk.sort {r : RT} (h : ∀ s ∈ subR r, PartOk s) : ∀ s ∈ subR (sortR r), PartOk s := by
  intro s hs
  obtain ⟨q, hq, rfl⟩ := List.mem_map.1 ((subR_sort r).mem_iff.1 hs)
  obtain ⟨h1, h2, h3⟩ := h q hq
  refine ⟨fun e => ?_, fun e => ?_, ?_⟩
  · rw [sortR_nm]; rw [sortR_kids] at e; exact h1 (fun e2 => e (sortRs_nil.2 e2))
  · rw [sortR_nm]; rw [sortR_kids] at e; exact h2 (sortRs_nil.1 e)
  · rw [sortR_kids, (sortRs_perm q.kids).length_eq, List.length_map]; exact h3
theorem one_R (h1 : names.length = 1) : (⟨[-1], names⟩ : Tre) = flat (.node (gs names 0) []) := by
  unfold flat
  rw [psR, psRs, nsR, nsRs]
  congr 1
  refine List.ext_getElem (by simpa using h1) fun i i1 i2 => ?_
  obtain rfl : i = 0 := by omega
  simp [gs, i1]
/-- The rose tree of Tree's tree. -/
def finR (names : List ByteArray) (l : List Grp) : RT := if names.length = 1 then .node (gs names 0) [] else sortR (shR names l)
theorem shTree_fin (h : shErr names l = 0) : shTree names l = flat (finR names l) := by
  have hk := shErr_ok h
  unfold finR
  by_cases h1 : names.length = 1
  · rw [if_pos h1, ← one_R h1]
    unfold shTree
    rw [if_neg (by simp [h]), if_pos h1]
  · rw [if_neg h1]
    exact (shTree_two h (by have := hk.pos; omega)).1
theorem finR_ok (h : shErr names l = 0) : (leafR (finR names l)).Perm names ∧ (∀ s ∈ subR (finR names l), PartOk s) ∧ sortR (finR names l) = finR names l := by
  have hk := shErr_ok h
  unfold finR
  by_cases h1 : names.length = 1
  · rw [if_pos h1]
    have hnm := hk.nm 0 (by omega)
    refine ⟨?_, fun s hs => ?_, rfl⟩
    · rw [leafR_leaf (named_size hnm)]
      have : [gs names 0] = names := by
        refine List.ext_getElem (by simp [h1]) fun i i1 i2 => ?_
        obtain rfl : i = 0 := by simp at i1; omega
        simp [gs, i2]
      rw [this]
    · rw [subR, subRs] at hs
      obtain rfl : s = .node (gs names 0) [] := by simpa using hs
      exact ⟨fun e => absurd rfl e, fun _ => hnm, by simp [RT.kids]⟩
  · rw [if_neg h1]
    obtain ⟨h3, h4⟩ := shR_ok hk (by have := hk.pos; omega)
    exact ⟨(leafR_sort _).trans h3, PartOk.sort h4, sortR_idem _⟩
theorem finR_good (h : shErr names l = 0) : GoodR (finR names l) ∧ sizeR (finR names l) ≤ 64 := by
  have hk := shErr_ok h
  obtain ⟨h1, h2, _⟩ := finR_ok h
  refine ⟨⟨fun s hs e => (h2 s hs).1 e, fun s hs e => (h2 s hs).2.1 e, h1.nodup_iff.2 (names_nodup hk)⟩, ?_⟩
  have := size_le _ h2
  rw [h1.length_eq] at this
  have := hk.le
  omega
/-- Tree's tree is valid and canonical; its leaves are the names. -/
theorem shTree_law (h : shErr names l = 0) : treeErr (shTree names l) = 0 ∧ canT (shTree names l) = shTree names l ∧ (fltN (shTree names l).ns).Perm names ∧ shRes names l = 0 := by
  have hk := shErr_ok h
  obtain ⟨h1, h2, h3⟩ := finR_ok h
  obtain ⟨h4, h5⟩ := finR_good h
  have h6 := treeErr_flat h4 h5
  rw [shTree_fin h]
  refine ⟨h6, by rw [canT_flat h6, toR_flat, h3], h1, ?_⟩
  by_cases e : names.length = 1
  · unfold shRes; rw [if_neg (by simp [h]), if_pos e]
  · exact (shTree_two h (by have := hk.pos; omega)).2
/-- How often a number stands among the first k. -/
def cntI (ps : List Int) (i : Int) : Nat → Nat
  | 0 => 0
  | k + 1 => if gi ps k = i then cntI ps i k + 1 else cntI ps i k
theorem cnt_kids {ps : List Int} (h : pOkB ps = true) (i : Nat) : ∀ k, k ≤ ps.length → cntI ps (i : Int) k = (kidsK ps i k).length
  | 0, _ => rfl
  | k + 1, hk => by
    rw [cntI, kidsK_succ, List.length_append, cnt_kids h i k (by omega)]
    by_cases e : gi ps k = i
    · have h1 := pOkB_at h (show k < ps.length by omega)
      unfold okp at h1
      have hlt : i < k := by
        by_cases hz : k = 0
        · rw [if_pos hz, e] at h1
          have : (i : Int) = -1 := by simp at h1
          omega
        · rw [if_neg hz, e] at h1
          simp only [Bool.and_eq_true, decide_eq_true_eq] at h1
          omega
      rw [if_pos e, if_pos ⟨hlt, e⟩]; rfl
    · rw [if_neg e, if_neg (fun q => e q.2)]; rfl
theorem hdR_len : ∀ (rs : List RT) (n : Nat), (hdR rs n).length = rs.length
  | [], _ => rfl
  | r :: rs, n => by rw [hdR, List.length_cons, hdR_len rs, List.length_cons]
/-- No node of Tree's tree has one child. -/
theorem shTree_one (h : shErr names l = 0) {i : Nat} (hi : i < (shTree names l).ps.length) : cntI (shTree names l).ps (i : Int) (shTree names l).ps.length ≠ 1 := by
  rw [shTree_fin h] at hi ⊢
  rw [cnt_kids (pOk_flat _) i _ (Nat.le_refl _)]
  show (kidsL _ i).length ≠ 1
  rw [flat_ps] at hi
  have hi2 : i < (subR (finR names l)).length := by rw [subR_len]; exact hi
  have hs : (subR (finR names l))[i]? = some (subR (finR names l))[i] := List.getElem?_eq_getElem hi2
  rw [kids_flat hs, hdR_len]
  exact ((finR_ok h).2.1 _ (List.getElem_mem hi2)).2.2
end
theorem srtL_perm {a b : List (List UInt8)} (h : a.Perm b) : srtL a = srtL b := by
  have tr : ∀ a b c : List UInt8, decide (a ≤ b) = true → decide (b ≤ c) = true → decide (a ≤ c) = true := fun a b c h1 h2 => by
    simp only [decide_eq_true_eq] at *
    exact List.le_trans h1 h2
  have tt : ∀ a b : List UInt8, (decide (a ≤ b) || decide (b ≤ a)) = true := fun a b => by
    simp only [Bool.or_eq_true, decide_eq_true_eq]
    exact List.le_total a b
  refine List.Perm.eq_of_pairwise (le := fun a b => decide (a ≤ b) = true) (fun x y _ _ h1 h2 => ?_) (List.pairwise_mergeSort tr tt a) (List.pairwise_mergeSort tr tt b) (((List.mergeSort_perm a _).trans h).trans (List.mergeSort_perm b _).symm)
  simp only [decide_eq_true_eq] at h1 h2
  exact List.le_antisymm h1 h2
theorem sortS_perm {a b : List ByteArray} (h : a.Perm b) : sortS a = sortS b := by unfold sortS; rw [srtL_perm (h.map toL)]
theorem nmLt_le : ∀ i, i < 10 → ∀ j, j < 10 → i ≤ j → toL (nmLt i) ≤ toL (nmLt j) := by decide +kernel
theorem sortS_A {n : Nat} (hn : n ≤ 10) : sortS (namesA n) = namesA n := by
  unfold sortS srtL
  rw [List.mergeSort_of_pairwise]
  · rw [List.map_map]
    have : (ofL ∘ toL) = id := funext ofL_toL
    rw [this, List.map_id]
  · unfold namesA
    rw [List.map_map]
    refine List.pairwise_map.2 (List.Pairwise.imp_of_mem (fun {a b} ha hb hab => ?_) List.pairwise_lt_range)
    have ha := List.mem_range.1 ha
    have hb := List.mem_range.1 hb
    simpa using nmLt_le a (by omega) b (by omega) (by omega)
/-- The leaves, sorted, are the names. -/
theorem leaves_A {n : Nat} {l : List Grp} (hn : n ≤ 10) (h : shErr (namesA n) l = 0) : sortS (fltN (shTree (namesA n) l).ns) = namesA n := by
  rw [sortS_perm (shTree_law h).2.2.1, sortS_A hn]
/-- The bound that shTree_t asks. -/
theorem raw_small {names : List ByteArray} {l : List Grp} (h : shErr names l = 0) : (rawT names l).ps.length ≤ 1000000 := by
  have hk := shErr_ok h
  by_cases h2 : 2 ≤ names.length
  · have := rawT_small hk h2; omega
  · have h1 : names.length = 1 := by have := hk.pos; omega
    have hin : innL l (allN names.length) = [] := by
      cases hc : innL l (allN names.length) with
      | nil => rfl
      | cons y q =>
        have h3 := hk.lam.two y (by rw [hc]; simp)
        have h4 : (bitsN names.length y).length ≤ names.length := by unfold bitsN; exact Nat.le_trans (List.length_filter_le _ _) (by simp)
        omega
    rw [rawT_R hk, flat_ps]
    unfold shR
    rw [hin, growR]
    have e1 : kidsX [] (allN names.length) = [] := rfl
    rw [e1, List.map_nil, List.nil_append, sizeR]
    have h5 : ∀ k lf, sizeRs (leavesN names lf k) ≤ k := by
      intro k lf
      unfold leavesN
      have : ∀ q : List Nat, sizeRs (q.map (leafN names)) = q.length := by
        intro q
        induction q with
        | nil => rfl
        | cons a q ih => rw [List.map_cons, sizeRs, ih]; unfold leafN; rw [sizeR, sizeRs, List.length_cons]; omega
      rw [this]
      exact Nat.le_trans (List.length_filter_le _ _) (by simp)
    have := h5 names.length (leftX [] (allN names.length))
    omega
end Go.Proofs.Ytkfndaebmbnmaaa
