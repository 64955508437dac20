/- The rose tree of nested sets: leaves, sizes, no node with one child. The tree of groups that are not in conflict: valid, its leaves are the names, no node has one child. Which parts the rose tree of nested sets has: the sets, and the single sources. The contract of slices.Sort at strings: the laying. slices.Sort at strings that the call has built. The law's names: A, B, .. -/
import Derived.Test.YtgjcfkadioblfaaGreatQ23
import Derived.Test.YtgjcfkadioblfaaGreatQ22
import Derived.Shelf.SlGeneric
import Derived.Shelf.Lays
import Derived.Shelf.Sort.Plain
import Derived.Ground.NamesProg
import Derived.Test.YtgjcfkadioblfaaGreatProg
import Derived.Test.YtgjcfkadioblfaaGreatQ5
import Derived.Test.YtgjcfkadioblfaaGreatQ1
import Derived.Sort.OwnSorted
import Derived.Shelf.Slices.In.SortNone
import Derived.Test.YtgjcfkadioblfaaGreatQ20
import Derived.Laws.IdiomStrings
namespace Go.Proofs.YtgjcfkadioblfaaGreat
def bitsN (n x : Nat) : List Nat := (List.range n).filter fun i => x.testBit i
theorem mem_bitsN {n x i : Nat} : i ∈ bitsN n x ↔ i < n ∧ x.testBit i = true := by unfold bitsN; rw [List.mem_filter, List.mem_range]
theorem testBit_minus {a b i : Nat} (hb : U64 b) (hi : i < 32) : (minus a b).testBit i = (a.testBit i && !b.testBit i) := by
  unfold minus
  have e : 18446744073709551615 - b = 2 ^ 64 - (b + 1) := by unfold U64 at hb; omega
  have hb2 : b < 2 ^ 64 := hb
  rw [e, Nat.testBit_and, Nat.testBit_two_pow_sub_succ hb2]
  simp [show i < 64 by omega]
theorem filter_split (p q r : Nat → Bool) : ∀ l : List Nat, (∀ i ∈ l, p i = (q i || r i) ∧ ¬ (q i = true ∧ r i = true)) → (l.filter p).Perm (l.filter q ++ l.filter r)
  | [], _ => List.Perm.refl _
  | a :: l, h => by
    have ih := filter_split p q r l (fun i hi => h i (by simp [hi]))
    obtain ⟨h1, h2⟩ := h a (by simp)
    cases hq : q a
    · cases hr : r a
      · rw [hq, hr] at h1
        rw [List.filter_cons_of_neg (by rw [h1]; simp), List.filter_cons_of_neg (by rw [hq]; simp), List.filter_cons_of_neg (by rw [hr]; simp)]; exact ih
      · rw [hq, hr] at h1
        rw [List.filter_cons_of_pos (by rw [h1]; simp), List.filter_cons_of_neg (by rw [hq]; simp), List.filter_cons_of_pos hr]
        exact (ih.cons a).trans List.perm_middle.symm
    · cases hr : r a
      · rw [hq, hr] at h1
        rw [List.filter_cons_of_pos (by rw [h1]; simp), List.filter_cons_of_pos hq, List.filter_cons_of_neg (by rw [hr]; simp)]
        exact ih.cons a
      · exact absurd ⟨hq, hr⟩ h2
def Apart (y z : Nat) : Prop := ∀ i, ¬ (y.testBit i = true ∧ z.testBit i = true)
theorem bits_minus {n a b : Nat} (hn : n ≤ 32) (hb : U64 b) (hs : ∀ i, b.testBit i = true → a.testBit i = true) : (bitsN n a).Perm (bitsN n b ++ bitsN n (minus a b)) := by
  unfold bitsN
  refine filter_split _ _ _ _ fun i hi => ?_
  have hi : i < n := List.mem_range.1 hi
  rw [testBit_minus hb (by omega)]
  have := hs i
  cases h1 : a.testBit i <;> cases h2 : b.testBit i <;> simp_all
theorem bits_fold {n : Nat} (hn : n ≤ 32) : ∀ (ks : List Nat) (a : Nat), (∀ y ∈ ks, U64 y ∧ (∀ i, y.testBit i = true → i < n ∧ a.testBit i = true)) → ks.Pairwise Apart → (bitsN n a).Perm (ks.flatMap (bitsN n) ++ bitsN n (ks.foldl minus a))
  | [], _, _, _ => List.Perm.refl _
  | y :: ks, a, h, hp => by
    obtain ⟨h1, h2⟩ := List.pairwise_cons.1 hp
    have hy := h y (by simp)
    have ih := bits_fold hn ks (minus a y) (fun z hz => ⟨(h z (by simp [hz])).1, fun i hi => by
      have hz2 := (h z (by simp [hz])).2 i hi
      refine ⟨hz2.1, ?_⟩
      rw [testBit_minus hy.1 (by omega), hz2.2]
      cases hyi : y.testBit i
      · rfl
      · exact absurd ⟨hyi, hi⟩ (h1 z hz i)⟩) h2
    rw [List.flatMap_cons, List.foldl_cons, List.append_assoc]
    exact (bits_minus hn hy.1 (fun i hi => (hy.2 i hi).2)).trans (ih.append_left _)
structure Lam (inner : List Nat) (n : Nat) : Prop where
  u : ∀ y ∈ inner, U64 y
  sub : ∀ y ∈ inner, ∀ i, y.testBit i = true → i < n
  two : ∀ y ∈ inner, 2 ≤ (bitsN n y).length
  lam : ∀ y ∈ inner, ∀ z ∈ inner, withinB y z = true ∨ withinB z y = true ∨ y &&& z = 0
  nd : inner.Nodup
theorem isKid_parts {inner : List Nat} {x y : Nat} (h : isKid inner x y = true) : y ≠ x ∧ withinB y x = true ∧ ∀ z ∈ inner, midB x y z = false := by
  unfold isKid at h
  simp only [Bool.and_eq_true, decide_eq_true_eq, Bool.not_eq_true'] at h
  refine ⟨h.1.1, h.1.2, fun z hz => ?_⟩
  obtain ⟨j, hj, e⟩ := List.getElem_of_mem hz
  have := any_false h.2 hj
  have hg : gn inner j = z := by simp [gn, hj, e]
  rw [hg] at this; exact this
theorem kids_apart {inner : List Nat} {n x : Nat} (h : Lam inner n) : (kidsX inner x).Pairwise Apart := by
  unfold kidsX
  refine List.Pairwise.imp_of_mem ?_ (List.Pairwise.filter _ h.nd)
  intro y z hy hz hne i hi
  obtain ⟨hy1, hy2⟩ := List.mem_filter.1 hy
  obtain ⟨hz1, hz2⟩ := List.mem_filter.1 hz
  obtain ⟨a1, a2, a3⟩ := isKid_parts hy2
  obtain ⟨b1, b2, b3⟩ := isKid_parts hz2
  rcases h.lam y hy1 z hz1 with h1 | h1 | h1
  · have := a3 z hz1
    unfold midB at this
    simp [b1, b2, h1, Ne.symm hne] at this
  · have := b3 y hy1
    unfold midB at this
    simp [a1, a2, h1, hne] at this
  · have : (y &&& z).testBit i = true := by rw [Nat.testBit_and, hi.1, hi.2]; rfl
    rw [h1] at this; simp at this
theorem perm_flatMap {α β : Type} {f g : α → List β} : ∀ l : List α, (∀ a ∈ l, (f a).Perm (g a)) → (l.flatMap f).Perm (l.flatMap g)
  | [], _ => List.Perm.refl _
  | a :: l, h => by
    rw [List.flatMap_cons, List.flatMap_cons]
    exact (h a (by simp)).append (perm_flatMap l fun b hb => h b (by simp [hb]))
/-- A part as it should be: inner parts without a name, leaves named, not one child. -/
def PartOk (s : RT) : Prop := (s.kids ≠ [] → s.nm.size = 0) ∧ (s.kids = [] → namedB s.nm.data.toList = true) ∧ s.kids.length ≠ 1
def fltN (l : List ByteArray) : List ByteArray := l.filter fun s => decide (s.size ≠ 0)
theorem fltN_app (a b : List ByteArray) : fltN (a ++ b) = fltN a ++ fltN b := List.filter_append _ _
theorem leafR_node {nm : ByteArray} {ks : List RT} (h : nm.size = 0) : leafR (.node nm ks) = ks.flatMap leafR := by
  have key : ∀ ks : List RT, fltN (nsRs ks) = ks.flatMap leafR := by
    intro ks
    induction ks with
    | nil => rfl
    | cons r rs ih => rw [nsRs, fltN_app, ih, List.flatMap_cons]; rfl
  show fltN (nsR _) = _
  rw [nsR, ← key]
  unfold fltN
  rw [List.filter_cons_of_neg (by simp [h])]
theorem leafR_leaf {nm : ByteArray} (h : nm.size ≠ 0) : leafR (.node nm []) = [nm] := by
  show List.filter _ (nsR _) = _
  rw [nsR, nsRs, List.filter_cons_of_pos (by simpa using h)]; rfl
mutual
theorem size_le : ∀ r : RT, (∀ s ∈ subR r, PartOk s) → sizeR r + 1 ≤ 2 * (leafR r).length
  | .node nm [], h => by
    have h1 : namedB nm.data.toList = true := (h (.node nm []) (by rw [subR]; simp)).2.1 rfl
    rw [leafR_leaf (named_size h1)]; simp [sizeR, sizeRs]
  | .node nm (k :: ks), h => by
    have h0 := h (.node nm (k :: ks)) (by rw [subR]; simp)
    have h1 : nm.size = 0 := h0.1 (by simp [RT.kids])
    have h2 : (k :: ks).length ≠ 1 := h0.2.2
    rw [leafR_node h1]
    have h3 := sizes_le (k :: ks) (fun s hs => h s (by rw [subR]; exact List.mem_cons_of_mem _ hs))
    rw [List.length_cons] at h2 h3
    rw [sizeR]; omega
theorem sizes_le : ∀ rs : List RT, (∀ s ∈ subRs rs, PartOk s) → sizeRs rs + rs.length ≤ 2 * (rs.flatMap leafR).length
  | [], _ => by simp [sizeRs]
  | r :: rs, h => by
    have h1 := size_le r (fun s hs => h s (by rw [subRs]; exact List.mem_append_left _ hs))
    have h2 := sizes_le rs (fun s hs => h s (by rw [subRs]; exact List.mem_append_right _ hs))
    rw [sizeRs, List.flatMap_cons, List.length_append, List.length_cons]; omega
end
theorem growR_ok {names : List ByteArray} {inner : List Nat} (hn : names.length ≤ 32) (hnm : ∀ s, s < names.length → namedB (gs names s).data.toList = true) (hL : Lam inner names.length) : ∀ (d x : Nat), x < d → U64 x → (∀ i, x.testBit i = true → i < names.length) → 2 ≤ (bitsN names.length x).length →
    (leafR (growR names inner d x)).Perm ((bitsN names.length x).map (gs names)) ∧ ∀ s ∈ subR (growR names inner d x), PartOk s
  | 0, _, h, _, _, _ => by omega
  | d + 1, x, h, hx, hs, h2 => by
    have hk : ∀ y ∈ kidsX inner x, y ∈ inner ∧ isKid inner x y = true := fun y hy => List.mem_filter.1 hy
    have hsub : ∀ y ∈ kidsX inner x, U64 y ∧ (∀ i, y.testBit i = true → i < names.length ∧ x.testBit i = true) := fun y hy =>
      ⟨hL.u y (hk y hy).1, fun i hi => ⟨hL.sub y (hk y hy).1 i hi, (withinB_iff (hL.u y (hk y hy).1) hx).1 (isKid_parts (hk y hy).2).2.1 i hi⟩⟩
    have ih := fun (y : Nat) (hy : y ∈ kidsX inner x) => growR_ok hn hnm hL d y (by
      have := isKid_lt hx (hL.u y (hk y hy).1) (hk y hy).2
      omega) (hL.u y (hk y hy).1) (hL.sub y (hk y hy).1) (hL.two y (hk y hy).1)
    have hf := bits_fold hn (kidsX inner x) x hsub (kids_apart hL)
    have hlv : (leavesN names (leftX inner x) names.length).flatMap leafR = (bitsN names.length (leftX inner x)).map (gs names) := by
      unfold leavesN
      show (List.map (leafN names) (bitsN names.length (leftX inner x))).flatMap leafR = _
      rw [List.flatMap_map]
      have key : ∀ l : List Nat, (∀ i ∈ l, i < names.length) → (l.flatMap fun a => leafR (leafN names a)) = l.map (gs names) := by
        intro l
        induction l with
        | nil => intro _; rfl
        | cons a l ihl =>
          intro hl
          rw [List.flatMap_cons, ihl (fun i hi => hl i (by simp [hi])), List.map_cons]
          unfold leafN
          rw [leafR_leaf (named_size (hnm a (hl a (by simp))))]; rfl
      exact key _ (fun i hi => (mem_bitsN.1 hi).1)
    have h0 : (ByteArray.empty).size = 0 := rfl
    constructor
    · rw [growR, leafR_node h0, List.flatMap_append, hlv, List.flatMap_map]
      have h3 : ((kidsX inner x).flatMap fun y => leafR (growR names inner d y)).Perm ((kidsX inner x).flatMap fun y => (bitsN names.length y).map (gs names)) := perm_flatMap _ fun y hy => (ih y hy).1
      refine (h3.append_right _).trans ?_
      rw [← List.map_flatMap, ← List.map_append]
      exact (hf.map (gs names)).symm
    · intro s hsm
      rw [growR, subR, List.mem_cons] at hsm
      rcases hsm with rfl | hsm
      · have hlen : ((kidsX inner x).map (growR names inner d) ++ leavesN names (leftX inner x) names.length).length = (kidsX inner x).length + (bitsN names.length (leftX inner x)).length := by
          rw [List.length_append, List.length_map]; unfold leavesN bitsN; rw [List.length_map]
        have h4 : 2 ≤ (kidsX inner x).length + (bitsN names.length (leftX inner x)).length := by
          cases hkx : kidsX inner x with
          | nil =>
            have : leftX inner x = x := by unfold leftX; rw [hkx]; rfl
            rw [this]; simp only [List.length_nil]; omega
          | cons y l =>
            cases l with
            | cons z l => simp only [List.length_cons]; omega
            | nil =>
              have hy : y ∈ kidsX inner x := by rw [hkx]; simp
              have hl : leftX inner x = minus x y := by unfold leftX; rw [hkx]; rfl
              cases hb : bitsN names.length (leftX inner x) with
              | cons b bs => simp only [List.length_cons, List.length_nil]; omega
              | nil =>
                exfalso
                have hw : withinB x y = true := (withinB_iff hx (hsub y hy).1).2 fun i hi => by
                  cases hyi : y.testBit i with
                  | true => rfl
                  | false =>
                    have hin : i ∈ bitsN names.length (leftX inner x) := mem_bitsN.2 ⟨hs i hi, by
                      rw [hl, testBit_minus (hsub y hy).1 (by have := hs i hi; omega), hi, hyi]; rfl⟩
                    rw [hb] at hin; cases hin
                have h5 := within_le hx (hsub y hy).1 hw
                have h6 := isKid_lt hx (hsub y hy).1 (hk y hy).2
                omega
        refine ⟨fun _ => h0, fun e => ?_, ?_⟩
        · have e : (kidsX inner x).map (growR names inner d) ++ leavesN names (leftX inner x) names.length = [] := e
          rw [e] at hlen; simp only [List.length_nil] at hlen; omega
        · show ((kidsX inner x).map (growR names inner d) ++ leavesN names (leftX inner x) names.length).length ≠ 1
          rw [hlen]; omega
      · rw [subRs_flat, List.flatMap_append, List.mem_append] at hsm
        rcases hsm with hsm | hsm
        · obtain ⟨q, hq, hs2⟩ := List.mem_flatMap.1 hsm
          obtain ⟨y, hy, rfl⟩ := List.mem_map.1 hq
          exact (ih y hy).2 s hs2
        · obtain ⟨q, hq, hs2⟩ := List.mem_flatMap.1 hsm
          unfold leavesN at hq
          obtain ⟨i, hi, rfl⟩ := List.mem_map.1 hq
          have hi2 : i < names.length := List.mem_range.1 (List.mem_filter.1 hi).1
          unfold leafN at hs2
          rw [subR, subRs] at hs2
          obtain rfl : s = .node (gs names i) [] := by simpa using hs2
          exact ⟨fun e => absurd rfl e, fun _ => hnm i hi2, by simp [RT.kids]⟩
end Go.Proofs.YtgjcfkadioblfaaGreat
namespace Go.Proofs.YtgjcfkadioblfaaGreat
theorem mxK_ge (l : List Int) : ∀ {n k : Nat}, k < n → gi l k ≤ mxK l n
  | 0, k, h => by omega
  | n + 1, k, h => by
    rw [mxK]
    by_cases e : k = n
    · subst e; omega
    · have := mxK_ge l (n := n) (k := k) (by omega); omega
theorem mxL_ge {l : List Int} {x : Int} (h : x ∈ l) : x ≤ mxL l := by
  obtain ⟨k, hk, e⟩ := List.getElem_of_mem h
  have h1 := mxK_ge l hk
  have h2 : gi l k = x := by simp [gi, hk, e]
  rw [h2] at h1; exact h1
theorem innK_nodup (l : List Grp) (all : Nat) : ∀ k, (innK l all k).Nodup
  | 0 => List.nodup_nil
  | k + 1 => by
    have ih := innK_nodup l all k
    unfold innK
    split
    · rename_i hc
      rw [List.nodup_append]
      refine ⟨ih, by simp, fun a ha b hb e => ?_⟩
      obtain rfl : b = ofS (gg l k).src := by simpa using hb
      subst e; exact hc.2.2 ha
    · exact ih
/-- What groups have that Tree does not refuse. -/
structure ShOk (names : List ByteArray) (l : List Grp) : Prop where
  pos : 0 < names.length
  le : names.length ≤ 32
  nm : ∀ k, k < names.length → namedB (gs names k).data.toList = true
  nd : ∀ j k, j < k → k < names.length → gs names k ≠ gs names j
  gc : gcErr l = 0
  far : ∀ k, k < l.length → ∀ x ∈ (gg l k).src, x < names.length
  cf : ∀ i k, i < k → k < l.length → confB (ofS (gg l i).src) (ofS (gg l k).src) = false
theorem shErr_ok {names : List ByteArray} {l : List Grp} (h : shErr names l = 0) : ShOk names l := by
  unfold shErr at h
  split at h
  · cases h
  · rename_i h1
    split at h
    · cases h
    · rename_i h2
      split at h
      · rename_i h3; exact absurd h h3
      · rename_i h3
        have h3 : firstNZ (nmErr names) names.length = 0 := by
          by_cases e : firstNZ (nmErr names) names.length = 0
          · exact e
          · exact absurd e h3
        split at h
        · rename_i h4; exact absurd h h4
        · rename_i h4
          have h4 : gcErr l = 0 := by
            by_cases e : gcErr l = 0
            · exact e
            · exact absurd e h4
          split at h
          · cases h
          · rename_i h5
            split at h
            · cases h
            · rename_i h6
              have h6 : cfL l = [] := by
                by_cases e : cfL l = []
                · exact e
                · exact absurd e h6
              have hnm : ∀ k, k < names.length → namedB (gs names k).data.toList = true ∧ ((List.range k).any fun j => decide (gs names k = gs names j)) = false := fun k hk => by
                have := firstNZ_eq_zero h3 k hk
                unfold nmErr at this
                split at this
                · cases this
                · rename_i q1
                  split at this
                  · cases this
                  · rename_i q2
                    exact ⟨by simpa using q1, by simpa using q2⟩
              have h5 : farB l names.length = false := by simpa using h5
              unfold cfL at h6
              rw [if_pos h4] at h6
              refine ⟨by omega, by omega, fun k hk => (hnm k hk).1, fun j k hj hk => by
                have := any_false (hnm k hk).2 hj
                simpa using this, h4, fun k hk x hx => ?_, fun i k hik hk => ?_⟩
              · have h7 := any_false h5 hk
                have h8 := mxL_ge hx
                have h9 : ¬ ((names.length : Int) ≤ mxL (gg l k).src) := by simpa using h7
                omega
              · cases hc : confB (ofS (gg l i).src) (ofS (gg l k).src) with
                | false => rfl
                | true =>
                  exfalso
                  have hm : [(i : Int), (k : Int)] ∈ cfK l l.length := by
                    unfold cfK cfRow
                    refine List.mem_flatMap.2 ⟨i, List.mem_range.2 (by omega), List.mem_map.2 ⟨k, List.mem_filter.2 ⟨List.mem_range.2 hk, ?_⟩, rfl⟩⟩
                    unfold cfB
                    simp [hik, hc]
                  rw [h6] at hm; cases hm
section
variable {names : List ByteArray} {l : List Grp}
theorem ShOk.small (h : ShOk names l) {k : Nat} (hk : k < l.length) : Small (gg l k).src := (srcOk_small ((gcErr_zero h.gc).2 k hk).2.2.2).1
theorem ShOk.bits (h : ShOk names l) {k : Nat} (hk : k < l.length) {i : Nat} : (ofS (gg l k).src).testBit i = true ↔ (i : Int) ∈ (gg l k).src := testBit_ofS (h.small hk) i
theorem two_bits {n x a b : Nat} (hab : a ≠ b) (ha : a ∈ bitsN n x) (hb : b ∈ bitsN n x) : 2 ≤ (bitsN n x).length := by
  have h1 : [a, b].Nodup := by simp [hab]
  have h2 : [a, b] ⊆ bitsN n x := fun y hy => by
    rcases List.mem_cons.1 hy with e | hy
    · rw [e]; exact ha
    · have e : y = b := by simpa using hy
      rw [e]; exact hb
  have := h1.length_le_of_subset h2
  simpa using this
theorem conf_cases {a b : Nat} (h : confB a b = false) : withinB a b = true ∨ withinB b a = true ∨ a &&& b = 0 := by
  unfold confB at h
  by_cases e : a &&& b = 0
  · exact .inr (.inr e)
  · cases h1 : withinB a b
    · cases h2 : withinB b a
      · rw [h1, h2] at h; simp [e] at h
      · exact .inr (.inl rfl)
    · exact .inl rfl
theorem ShOk.lam (h : ShOk names l) : Lam (innL l (allN names.length)) names.length := by
  refine ⟨fun y hy => ?_, fun y hy i hi => ?_, fun y hy => ?_, fun y hy z hz => ?_, innK_nodup _ _ _⟩
  · obtain ⟨j, hj, rfl, _⟩ := innK_mem hy
    exact ofS_u64 (h.small hj)
  · obtain ⟨j, hj, rfl, _⟩ := innK_mem hy
    have := h.far j hj _ ((h.bits hj).1 hi); omega
  · obtain ⟨j, hj, rfl, h1, _⟩ := innK_mem hy
    obtain ⟨hs, _, hm⟩ := srcOk_small ((gcErr_zero h.gc).2 j hj).2.2.2
    obtain ⟨a, ha, _⟩ := small_mem hs (gi_mem (l := (gg l j).src) (k := 0) (by omega))
    obtain ⟨b, hb, _⟩ := small_mem hs (gi_mem (l := (gg l j).src) (k := 1) h1)
    have h2 := hm 1 (by omega) h1
    have hma : (a : Int) ∈ (gg l j).src := by rw [← ha]; exact gi_mem (by omega)
    have hmb : (b : Int) ∈ (gg l j).src := by rw [← hb]; exact gi_mem h1
    refine two_bits (a := a) (b := b) (by
      have e : (1 : Nat) - 1 = 0 := rfl
      rw [e, ha, hb] at h2; omega) (mem_bitsN.2 ⟨?_, (h.bits hj).2 hma⟩) (mem_bitsN.2 ⟨?_, (h.bits hj).2 hmb⟩)
    · have := h.far j hj _ hma; omega
    · have := h.far j hj _ hmb; omega
  · obtain ⟨j, hj, rfl, _⟩ := innK_mem hy
    obtain ⟨k, hk, rfl, _⟩ := innK_mem hz
    rcases Nat.lt_trichotomy j k with e | e | e
    · exact conf_cases (h.cf j k e hk)
    · subst e
      exact .inl ((withinB_iff (ofS_u64 (h.small hj)) (ofS_u64 (h.small hj))).2 fun i hi => hi)
    · rcases conf_cases (h.cf k j e hj) with q | q | q
      · exact .inr (.inl q)
      · exact .inl q
      · exact .inr (.inr (by rw [Nat.and_comm]; exact q))
theorem all_bits (n : Nat) : bitsN n (allN n) = List.range n := by
  unfold bitsN allN
  rw [List.filter_eq_self]
  intro i hi
  have : i < n := List.mem_range.1 hi
  rw [Nat.testBit_two_pow_sub_one]; simpa using this
/-- The rose tree of the groups. -/
def shR (names : List ByteArray) (l : List Grp) : RT := growR names (innL l (allN names.length)) (allN names.length + 1) (allN names.length)
theorem range_gs (names : List ByteArray) : (List.range names.length).map (gs names) = names := by
  refine List.ext_getElem (by simp) fun i h1 h2 => ?_
  simp [gs, h2]
theorem shR_ok (h : ShOk names l) (h2 : 2 ≤ names.length) : (leafR (shR names l)).Perm names ∧ ∀ s ∈ subR (shR names l), PartOk s := by
  have hall : U64 (allN names.length) := by have := all_lt h.le; unfold U64; omega
  have := growR_ok (inner := innL l (allN names.length)) h.le h.nm h.lam (allN names.length + 1) (allN names.length) (by omega) hall (fun i hi => by
    unfold allN at hi
    rw [Nat.testBit_two_pow_sub_one] at hi; simpa using hi) (by rw [all_bits]; simpa using h2)
  rw [all_bits, range_gs] at this
  exact this
theorem names_nodup (h : ShOk names l) : names.Nodup := by
  unfold List.Nodup
  rw [List.pairwise_iff_getElem]
  intro i j hi hj hij e
  have := h.nd i j hij hj
  simp [gs, hi, hj] at this
  exact this e.symm
theorem shR_good (h : ShOk names l) (h2 : 2 ≤ names.length) : GoodR (shR names l) := by
  obtain ⟨h3, h4⟩ := shR_ok h h2
  exact ⟨fun s hs hk => (h4 s hs).1 hk, fun s hs hk => (h4 s hs).2.1 hk, h3.nodup_iff.2 (names_nodup h)⟩
theorem shR_size (h : ShOk names l) (h2 : 2 ≤ names.length) : sizeR (shR names l) + 1 ≤ 2 * names.length := by
  obtain ⟨h3, h4⟩ := shR_ok h h2
  have := size_le _ h4
  rw [h3.length_eq] at this; exact this
theorem rawT_R (h : ShOk names l) : rawT names l = flat (shR names l) := rawT_flat names l h.le h.gc
theorem rawT_valid (h : ShOk names l) (h2 : 2 ≤ names.length) : treeErr (rawT names l) = 0 := by
  rw [rawT_R h]
  have := shR_size h h2
  have := h.le
  exact treeErr_flat (shR_good h h2) (by omega)
/-- The bound that shTree_t asks. -/
theorem rawT_small (h : ShOk names l) (h2 : 2 ≤ names.length) : (rawT names l).ps.length ≤ 63 := by
  rw [rawT_R h, flat_ps]
  have := shR_size h h2
  have := h.le
  omega
/-- The tree of Tree: the sorted rose tree, numbered. -/
theorem shTree_two (h : shErr names l = 0) (h2 : 2 ≤ names.length) : shTree names l = flat (sortR (shR names l)) ∧ shRes names l = 0 := by
  have hk := shErr_ok h
  have hv := rawT_valid hk h2
  unfold shTree shRes
  rw [if_neg (by simp [h]), if_neg (by omega), if_pos hv, if_neg (by simp [h]), if_neg (by omega), if_pos hv, canT_flat hv, rawT_R hk, toR_flat]
  exact ⟨rfl, rfl⟩
end
end Go.Proofs.YtgjcfkadioblfaaGreat
namespace Go.Proofs.YtgjcfkadioblfaaGreat
/-- Below the root: a leaf, or the part of a set. -/
theorem subs_grow (names : List ByteArray) (inner : List Nat) : ∀ (d x : Nat) (q : RT), (∀ y ∈ inner, U64 y) → U64 x → x < d → q ∈ subRs (growR names inner d x).kids →
    (∃ i, i < names.length ∧ q = .node (gs names i) []) ∨ ∃ y e, y ∈ inner ∧ y < e ∧ q = growR names inner e y
  | 0, _, _, _, _, h, _ => by omega
  | d + 1, x, q, hu, hx, hd, h => by
    rw [growR] at h
    have h : q ∈ subRs ((kidsX inner x).map (growR names inner d) ++ leavesN names (leftX inner x) names.length) := h
    rw [subRs_flat, List.flatMap_append, List.mem_append] at h
    rcases h with h | h
    · obtain ⟨k, hk, hq⟩ := List.mem_flatMap.1 h
      obtain ⟨y, hy, rfl⟩ := List.mem_map.1 hk
      obtain ⟨hy1, hy2⟩ := List.mem_filter.1 hy
      have hlt := isKid_lt hx (hu y hy1) hy2
      cases hg : growR names inner d y with
      | node nm ks =>
        rw [hg, subR, List.mem_cons] at hq
        rcases hq with rfl | hq
        · exact .inr ⟨y, d, hy1, by omega, hg.symm⟩
        · refine subs_grow names inner d y q hu (hu y hy1) (by omega) ?_
          rw [hg]; exact hq
    · obtain ⟨k, hk, hq⟩ := List.mem_flatMap.1 h
      unfold leavesN at hk
      obtain ⟨i, hi, rfl⟩ := List.mem_map.1 hk
      have hi2 : i < names.length := List.mem_range.1 (List.mem_filter.1 hi).1
      unfold leafN at hq
      rw [subR, subRs] at hq
      exact .inl ⟨i, hi2, by simpa using hq⟩
theorem withinB_trans {a b c : Nat} (ha : U64 a) (hb : U64 b) (hc : U64 c) (h1 : withinB a b = true) (h2 : withinB b c = true) : withinB a c = true :=
  (withinB_iff ha hc).2 fun i hi => (withinB_iff hb hc).1 h2 i ((withinB_iff ha hb).1 h1 i hi)
/-- A set within x, and not x, lies within a child of x. -/
theorem kid_above {inner : List Nat} {x : Nat} (hu : ∀ y ∈ inner, U64 y) (hx : U64 x) : ∀ (m y : Nat), x - y ≤ m → y ∈ inner → withinB y x = true → y ≠ x → ∃ z ∈ kidsX inner x, withinB y z = true := by
  intro m
  induction m with
  | zero =>
    intro y hm hy hw hne
    have := within_le (hu y hy) hx hw
    omega
  | succ m ih =>
    intro y hm hy hw hne
    by_cases hk : isKid inner x y = true
    · exact ⟨y, List.mem_filter.2 ⟨hy, hk⟩, (withinB_iff (hu y hy) (hu y hy)).2 fun _ h => h⟩
    · unfold isKid at hk
      rw [decide_eq_true hne, hw, Bool.true_and, Bool.true_and] at hk
      have hk : ((List.range inner.length).any fun j => midB x y (gn inner j)) = true := by simpa using hk
      obtain ⟨j, hj, hmid⟩ := List.any_eq_true.1 hk
      have hj : j < inner.length := List.mem_range.1 hj
      have hz := gn_mem hj
      generalize gn inner j = z at *
      unfold midB at hmid
      simp only [Bool.and_eq_true, decide_eq_true_eq] at hmid
      obtain ⟨⟨⟨a1, a2⟩, a3⟩, a4⟩ := hmid
      have h1 := within_le (hu y hy) (hu z hz) a4
      have h2 := within_le (hu z hz) hx a3
      obtain ⟨q, hq, hzq⟩ := ih z (by omega) hz a3 a1
      exact ⟨q, hq, withinB_trans (hu y hy) (hu z hz) (hu q (List.mem_filter.1 hq).1) a4 hzq⟩
/-- Each set has a part. -/
theorem set_part {names : List ByteArray} {inner : List Nat} (hu : ∀ y ∈ inner, U64 y) : ∀ (d x y : Nat), x < d → U64 x → y ∈ inner → withinB y x = true → ∃ e, y < e ∧ growR names inner e y ∈ subR (growR names inner d x)
  | 0, _, _, h, _, _, _ => by omega
  | d + 1, x, y, hd, hx, hy, hw => by
    by_cases e : y = x
    · subst e
      refine ⟨d + 1, hd, ?_⟩
      rw [growR, subR]; simp
    · obtain ⟨z, hz, hyz⟩ := kid_above hu hx _ y (Nat.le_refl _) hy hw e
      obtain ⟨hz1, hz2⟩ := List.mem_filter.1 hz
      have hlt := isKid_lt hx (hu z hz1) hz2
      obtain ⟨f, hf, hm⟩ := set_part (names := names) hu d z y (by omega) (hu z hz1) hy hyz
      refine ⟨f, hf, ?_⟩
      rw [growR, subR]
      refine List.mem_cons_of_mem _ ?_
      rw [subRs_flat, List.flatMap_append, List.mem_append]
      exact .inl (List.mem_flatMap.2 ⟨_, List.mem_map.2 ⟨z, hz, rfl⟩, hm⟩)
theorem leaf_part {r : RT} {nm : ByteArray} (h : ∀ s ∈ subR r, PartOk s) (hn : nm ∈ leafR r) : .node nm [] ∈ subR r := by
  obtain ⟨h1, h2⟩ := List.mem_filter.1 hn
  rw [nsR_sub] at h1
  obtain ⟨s, hs, hsn⟩ := List.mem_map.1 h1
  have h3 := (h s hs).1
  cases s with
  | node m ks =>
    have hm : m = nm := hsn
    subst hm
    cases ks with
    | nil => exact hs
    | cons k ks =>
      have := h3 (by simp [RT.kids])
      have h2 : m.size ≠ 0 := by simpa using h2
      exact absurd this h2
/-- A sorted list of sources is the list of the bits of its set. -/
theorem src_bits {l : List Int} {n : Nat} (h : srcOk l = true) (hn : ∀ x ∈ l, x < n) : l = (bitsN n (ofS l)).map Int.ofNat := by
  obtain ⟨hs, _, hm⟩ := srcOk_small h
  have asc : ∀ k, k < l.length → ∀ j, j < k → gi l j < gi l k := by
    intro k
    induction k with
    | zero => intro _ j hj; omega
    | succ k ih =>
      intro hk j hj
      have h1 := hm (k + 1) (by omega) hk
      rw [Nat.add_sub_cancel] at h1
      by_cases e : j = k
      · subst e; exact h1
      · have := ih (by omega) j (by omega); omega
  have p1 : l.Pairwise (· < ·) := by
    rw [List.pairwise_iff_getElem]
    intro i j hi hj hij
    have := asc j hj i hij
    simpa [gi, hi, hj] using this
  have p2 : ((bitsN n (ofS l)).map Int.ofNat).Pairwise (· < ·) := by
    rw [List.pairwise_map]
    refine (List.Pairwise.filter _ List.pairwise_lt_range).imp fun h => ?_
    exact Int.ofNat_lt.2 h
  have hmem : ∀ x, x ∈ l ↔ x ∈ (bitsN n (ofS l)).map Int.ofNat := by
    intro x
    constructor
    · intro hx
      obtain ⟨i, rfl, _⟩ := small_mem hs hx
      exact List.mem_map.2 ⟨i, mem_bitsN.2 ⟨by have := hn _ hx; omega, (testBit_ofS hs i).2 hx⟩, rfl⟩
    · intro hx
      obtain ⟨i, hi, rfl⟩ := List.mem_map.1 hx
      exact (testBit_ofS hs i).1 (mem_bitsN.1 hi).2
  have nd : ∀ {q : List Int}, q.Pairwise (· < ·) → q.Nodup := fun h => h.imp fun h => by omega
  have hp : l.Perm ((bitsN n (ofS l)).map Int.ofNat) := (List.perm_ext_iff_of_nodup (nd p1) (nd p2)).2 hmem
  exact List.Perm.eq_of_pairwise (le := fun a b : Int => a < b) (fun a b _ _ h1 h2 => by omega) p1 p2 hp
theorem bits_asc (n x : Nat) : (bitsN n x).Pairwise (· < ·) := List.Pairwise.filter _ List.pairwise_lt_range
end Go.Proofs.YtgjcfkadioblfaaGreat
namespace Go.Proofs
open Go.Shelf
def Tryz.sortS_ren : Go.Shelf.Ren := ⟨fun | 190 => 44 | 125 => 99 | 258 => 98 | 128 => 138 | 129 => 139 | 302 => 129 | 303 => 130 | 304 => 131 | 305 => 132 | 306 => 133 | 307 => 134 | 308 => 135 | 309 => 136 | 310 => 137 | 333 => 166 | 329 => 167 | 330 => 168 | 334 => 169 | 335 => 170 | 336 => 171 | 344 => 183 | n => n, fun | 31 => 23 | 9 => 9 | 3 => 3 | 46 => 133 | 0 => 0 | 51 => 172 | 53 => 74 | 4 => 4 | 183 => 165 | 182 => 164 | 131 => 89 | 5 => 5 | 218 => 193 | 222 => 197 | 228 => 204 | 229 => 205 | n => n, fun | n => n⟩
theorem Tryz.sortS : Go.Proofs.Lays.n190 Tryz.prog Tryz.sortS_ren := {
  mixed := by kernel_rfl
  f125 := Tryz.func99.trans (congrArg some (by kernel_rfl))
  f128 := Tryz.func138.trans (congrArg some (by kernel_rfl))
  f129 := Tryz.func139.trans (congrArg some (by kernel_rfl))
  f190 := Tryz.func44.trans (congrArg some (by kernel_rfl))
  f258 := Tryz.func98.trans (congrArg some (by kernel_rfl))
  f302 := Tryz.func129.trans (congrArg some (by kernel_rfl))
  f303 := Tryz.func130.trans (congrArg some (by kernel_rfl))
  f304 := Tryz.func131.trans (congrArg some (by kernel_rfl))
  f305 := Tryz.func132.trans (congrArg some (by kernel_rfl))
  f306 := Tryz.func133.trans (congrArg some (by kernel_rfl))
  f307 := Tryz.func134.trans (congrArg some (by kernel_rfl))
  f308 := Tryz.func135.trans (congrArg some (by kernel_rfl))
  f309 := Tryz.func136.trans (congrArg some (by kernel_rfl))
  f310 := Tryz.func137.trans (congrArg some (by kernel_rfl))
  f329 := Tryz.func167.trans (congrArg some (by kernel_rfl))
  f330 := Tryz.func168.trans (congrArg some (by kernel_rfl))
  f333 := Tryz.func166.trans (congrArg some (by kernel_rfl))
  f334 := Tryz.func169.trans (congrArg some (by kernel_rfl))
  f335 := Tryz.func170.trans (congrArg some (by kernel_rfl))
  f336 := Tryz.func171.trans (congrArg some (by kernel_rfl))
  f344 := Tryz.func183.trans (congrArg some (by kernel_rfl))
  t0 := Tryz.underlying0
  a0 := Tryz.isAgg0
  z0 := Tryz.sizeOf0
  v0 := Tryz.zeroValue0
  t3 := Tryz.underlying3
  a3 := Tryz.isAgg3
  z3 := Tryz.sizeOf3
  v3 := Tryz.zeroValue3
  t4 := Tryz.underlying4
  a4 := Tryz.isAgg4
  z4 := Tryz.sizeOf4
  v4 := Tryz.zeroValue4
  t5 := Tryz.underlying5
  a5 := Tryz.isAgg5
  z5 := Tryz.sizeOf5
  v5 := Tryz.zeroValue5
  t9 := Tryz.underlying9
  a9 := Tryz.isAgg9
  z9 := Tryz.sizeOf9
  v9 := Tryz.zeroValue9
  t31 := Tryz.underlying23
  a31 := Tryz.isAgg23
  z31 := Tryz.sizeOf23
  v31 := Tryz.zeroValue23
  t46 := Tryz.underlying133
  a46 := Tryz.isAgg133
  z46 := Tryz.sizeOf133
  v46 := Tryz.zeroValue133
  t51 := Tryz.underlying172
  a51 := Tryz.isAgg172
  z51 := Tryz.sizeOf172
  v51 := Tryz.zeroValue172
  t53 := Tryz.underlying74
  a53 := Tryz.isAgg74
  z53 := Tryz.sizeOf74
  v53 := Tryz.zeroValue74
  t131 := Tryz.underlying89
  a131 := Tryz.isAgg89
  z131 := Tryz.sizeOf89
  v131 := Tryz.zeroValue89
  t182 := Tryz.underlying164
  a182 := Tryz.isAgg164
  z182 := Tryz.sizeOf164
  v182 := Tryz.zeroValue164
  t183 := Tryz.underlying165
  a183 := Tryz.isAgg165
  z183 := Tryz.sizeOf165
  v183 := Tryz.zeroValue165
  t218 := Tryz.underlying193
  a218 := Tryz.isAgg193
  z218 := Tryz.sizeOf193
  v218 := Tryz.zeroValue193
  t222 := Tryz.underlying197
  a222 := Tryz.isAgg197
  z222 := Tryz.sizeOf197
  v222 := Tryz.zeroValue197
  t228 := Tryz.underlying204
  a228 := Tryz.isAgg204
  z228 := Tryz.sizeOf204
  v228 := Tryz.zeroValue204
  t229 := Tryz.underlying205
  a229 := Tryz.isAgg205
  z229 := Tryz.sizeOf205
  v229 := Tryz.zeroValue205 }
end Go.Proofs
namespace Go.Proofs.YtgjcfkadioblfaaGreat
open Go.RowKit Go.Sort Go.Shelf Go.Deep
def ofL (l : List UInt8) : ByteArray := ⟨l.toArray⟩
def toL (b : ByteArray) : List UInt8 := b.data.toList
theorem ofL_toL (b : ByteArray) : ofL (toL b) = b := by cases b; simp [ofL, toL]
theorem toL_ofL (l : List UInt8) : toL (ofL l) = l := by simp [ofL, toL]
def srtL (ss : List (List UInt8)) : List (List UInt8) := ss.mergeSort fun x y => decide (x ≤ y)
/-- The strings, sorted. -/
def sortS (xs : List ByteArray) : List ByteArray := (srtL (xs.map toL)).map ofL
theorem sortS_len (xs : List ByteArray) : (sortS xs).length = xs.length := by unfold sortS srtL; rw [List.length_map, List.length_mergeSort, List.length_map]
theorem enc_map (ss : List (List UInt8)) : ss.map encStr = (ss.map ofL).map Value.string := by rw [List.map_map]; rfl
theorem enc_map' (xs : List ByteArray) : (xs.map toL).map encStr = xs.map Value.string := by
  rw [List.map_map]
  refine List.map_congr_left fun b _ => ?_
  show Value.string (ofL (toL b)) = _
  rw [ofL_toL]
set_option maxRecDepth 100000 in
theorem sort_str_t (w w1 : World) (v : Value) (xs : List ByteArray) (hu : Up w w1) (ho : Owns w.heap.size 9 w1 v (xs.map Value.string)) (hlen : xs.length ≤ 1000000) :
    Calls Tryz.prog 44 #[v] w1 fun e w' => e = .returned (.tuple #[]) ∧ Up w w' ∧ Owns w.heap.size 9 w' v ((sortS xs).map Value.string) := by
  rcases ho.2 with ⟨rfl, h0⟩ | ⟨g, cap, cur, rfl, hg, hc, hn, hcm, hcs, ht⟩
  · have hx : xs = [] := by cases xs with | nil => rfl | cons _ _ => simp at h0
    subst hx
    refine (Any.slices_Sort_string_none Tryz.sortS none 0 w1).mono ?_
    rintro e w' ⟨rfl, rfl⟩
    exact ⟨rfl, hu, by unfold sortS srtL; simpa using ho⟩
  · simp only [List.length_map] at hn ht ho ⊢
    have hln : (xs.map toL).length = xs.length := List.length_map _
    have hH : Holds encStr w1 g 0 (xs.map toL).toArray := holds_of_block hc (by rw [enc_map', hln]; simpa using ht)
    have hS := Any.slices_Sort_string Tryz.sortS g 0 cap (xs.map toL) w1 hH (Array.getElem?_eq_some_iff.1 hc).1 (by rw [hln]; omega)
    rw [hln] at hS
    refine hS.mono ?_
    rintro e w' ⟨rfl, n, os, rfl⟩
    refine ⟨rfl, Below.grown hu (grownBy_sorted _) hu.size (fun j hj => by cases hj; exact hg), ?_⟩
    have h := ownsRow_sorted (n := n) (os := os) (ss := xs.map toL) (ts := srtL (xs.map toL)) (List.length_mergeSort _) hg hc (by rw [hln]; exact hn) hcm (by simpa using hcs)
    unfold Owns
    rw [List.length_map, sortS_len]
    rw [hln, enc_map] at h
    exact h
end Go.Proofs.YtgjcfkadioblfaaGreat
namespace Go.Proofs.YtgjcfkadioblfaaGreat
open Go.RowKit Go.Deep
/-- The name of number i. -/
def nmLt (i : Nat) : ByteArray := ⟨#[UInt8.ofNat (65 + i)]⟩
def namesA (n : Nat) : List ByteArray := (List.range n).map nmLt
theorem namesA_succ (n : Nat) : namesA (n + 1) = namesA n ++ [nmLt n] := by unfold namesA; rw [List.range_succ, List.map_append]; rfl
theorem namesA_len (n : Nat) : (namesA n).length = n := by simp [namesA]
def NmPost (w : World) (n : Nat) (e : Ending) (w' : World) : Prop := Up w w' ∧ ∃ v, e = .returned v ∧ Owns w.heap.size 9 w' v ((namesA n).map Value.string)
set_option maxRecDepth 100000 in
set_option maxHeartbeats 1000000 in
theorem names_t (w : World) (n : Nat) (hn : n ≤ 64) : Calls Tryz.prog 42 #[.int .i64 n] w (NmPost w n) := by
  have i0 : (0 : Int) ≤ (n : Int) := by omega
  go_enter Tryz.func42, Tryz.ntmps42
  go_wp2_with fail
  go_loopw [3, 4, 6] (fun d _ i wr => ∃ k : Nat, k ≤ n ∧ i = .int .i64 k ∧ Hid (Owns w.heap.size 9 wr d ((namesA k).map Value.string)) ∧ Hid (Up w wr)) (fun _ _ i _ => n - (intOf i).toNat)
  case atStart => exact ⟨0, Nat.zero_le _, rfl, Owns.nil _ _ _, Up.refl _⟩
  case round =>
    obtain ⟨k, hk, rfl, hD, hU⟩ := hrel
    obtain ⟨wo, rfl⟩ : ∃ wo : World, wo = wr := ⟨_, rfl⟩
    obtain ⟨d, rfl⟩ : ∃ d : Value, d = u3 := ⟨_, rfl⟩
    by_cases hlt : k < n
    · have i1 : (0 : Int) ≤ (k : Int) := by omega
      have i2 : (k : Int) < (n : Int) := by omega
      have d1 : decide ((k : Int) < (n : Int)) = true := by simp; omega
      have hcv : (convert 58 9 (.slice (some ⟨wo.heap.size, 0, none⟩) 1 1)).run Tryz.prog (wo.alloc (.cells #[.int .u8 (65 + (k : Int))] 5)) = .ok (.string (nmLt k)) (wo.alloc (.cells #[.int .u8 (65 + (k : Int))] 5)) :=
        run_convert_bytes_back _ 58 9 5 ⟨wo.heap.size, 0, none⟩ 1 [UInt8.ofNat (65 + k)] Tryz.underlying58 Tryz.underlying5 Tryz.underlying9 (fun j hj => by
          obtain rfl : j = 0 := by simp at hj; omega
          show (wo.alloc _).cell? ⟨wo.heap.size, 0, none⟩ = _
          rw [box1_0]
          have e : (UInt8.ofNat (65 + k)).toNat = 65 + k := by simp; omega
          show some (Value.int .u8 (65 + (k : Int))) = some (Value.int .u8 (((UInt8.ofNat (65 + k)).toNat : Nat) : Int))
          rw [e]; rfl)
      have HSN := Lib.hid (namesA_succ k)
      have hal := Up.alloc wo (.cells #[.int .u8 (65 + (k : Int))] 5)
      have HUA := Lib.hid (hU.out.trans hal)
      have HDA := Lib.hid (hD.out.kept fun b _ hb => Below.block hal b hb)
      have HLN : Hid (((namesA k).map Value.string).length = k) := by unfold Hid; rw [List.length_map, namesA_len]
      have hsz : (wo.alloc (.cells #[.int .u8 (65 + (k : Int))] 5)).heap.size = wo.heap.size + 1 := World.size_alloc _ _
      have hwz : w.heap.size ≤ (wo.alloc (.cells #[.int .u8 (65 + (k : Int))] 5)).heap.size := HUA.out.size
      clear hal
      go_wp2_with (at_builtin; refine wpList_appM (wo.alloc (.cells #[.int .u8 (65 + (k : Int))] 5)) rfl _ _ 23 rfl w.heap.size 9 (.string ⟨#[]⟩) 16 Tryz.underlying23 Tryz.infoStr2 rfl (by decide) HDA.out rfl (.string (nmLt k)) _ hsz rfl rfl k HLN.out (by omega) hwz ?_; intro g8 cap8 w8 hown1 hgr1 hbe1)
      go_roundw
      case rel => exact ⟨k + 1, by omega, by go_num, by unfold Hid; rw [HSN.out, List.map_append]; exact hown1, Below.trans HUA.out hbe1⟩
      case measure => simp [intOf]; omega
    · obtain rfl : k = n := by omega
      have d1 : decide ((k : Int) < (k : Int)) = false := by simp
      go_wp2_with fail
      go_ret
      exact ⟨hU.out, _, rfl, hD.out⟩
end Go.Proofs.YtgjcfkadioblfaaGreat
