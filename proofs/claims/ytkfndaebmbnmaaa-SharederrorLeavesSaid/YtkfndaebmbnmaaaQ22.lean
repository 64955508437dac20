/- The rose tree of nested sets: leaves, sizes, no node with one child. The tree of groups that are not in conflict: valid, its leaves are the names, no node has one child. The plain law of SharederrorLeaves. -/
import Derived.Test.YtkfndaebmbnmaaaQ21
import Derived.Test.YtkfndaebmbnmaaaQ20
namespace Go.Proofs.Ytkfndaebmbnmaaa
def bitsN (n x : Nat) : List Nat := (List.range n).filter fun i => x.testBit i
theorem mem_bitsN {n x i : Nat} : i ∈ bitsN n x ↔ i < n ∧ x.testBit i = true := by unfold bitsN; rw [List.mem_filter, List.mem_range]
theorem testBit_minus {a b i : Nat} (hb : U64 b) (hi : i < 32) : (minus a b).testBit i = (a.testBit i && !b.testBit i) := by
  unfold minus
  have e : 18446744073709551615 - b = 2 ^ 64 - (b + 1) := by unfold U64 at hb; omega
  have hb2 : b < 2 ^ 64 := hb
  rw [e, Nat.testBit_and, Nat.testBit_two_pow_sub_succ hb2]
  simp [show i < 64 by omega]
theorem filter_split (p q r : Nat → Bool) : ∀ l : List Nat, (∀ i ∈ l, p i = (q i || r i) ∧ ¬ (q i = true ∧ r i = true)) → (l.filter p).Perm (l.filter q ++ l.filter r)
  | [], _ => List.Perm.refl _
  | a :: l, h => by
    have ih := filter_split p q r l (fun i hi => h i (by simp [hi]))
    obtain ⟨h1, h2⟩ := h a (by simp)
    cases hq : q a
    · cases hr : r a
      · rw [hq, hr] at h1
        rw [List.filter_cons_of_neg (by rw [h1]; simp), List.filter_cons_of_neg (by rw [hq]; simp), List.filter_cons_of_neg (by rw [hr]; simp)]; exact ih
      · rw [hq, hr] at h1
        rw [List.filter_cons_of_pos (by rw [h1]; simp), List.filter_cons_of_neg (by rw [hq]; simp), List.filter_cons_of_pos hr]
        exact (ih.cons a).trans List.perm_middle.symm
    · cases hr : r a
      · rw [hq, hr] at h1
        rw [List.filter_cons_of_pos (by rw [h1]; simp), List.filter_cons_of_pos hq, List.filter_cons_of_neg (by rw [hr]; simp)]
        exact ih.cons a
      · exact absurd ⟨hq, hr⟩ h2
def Apart (y z : Nat) : Prop := ∀ i, ¬ (y.testBit i = true ∧ z.testBit i = true)
theorem bits_minus {n a b : Nat} (hn : n ≤ 32) (hb : U64 b) (hs : ∀ i, b.testBit i = true → a.testBit i = true) : (bitsN n a).Perm (bitsN n b ++ bitsN n (minus a b)) := by
  unfold bitsN
  refine filter_split _ _ _ _ fun i hi => ?_
  have hi : i < n := List.mem_range.1 hi
  rw [testBit_minus hb (by omega)]
  have := hs i
  cases h1 : a.testBit i <;> cases h2 : b.testBit i <;> simp_all
theorem bits_fold {n : Nat} (hn : n ≤ 32) : ∀ (ks : List Nat) (a : Nat), (∀ y ∈ ks, U64 y ∧ (∀ i, y.testBit i = true → i < n ∧ a.testBit i = true)) → ks.Pairwise Apart → (bitsN n a).Perm (ks.flatMap (bitsN n) ++ bitsN n (ks.foldl minus a))
  | [], _, _, _ => List.Perm.refl _
  | y :: ks, a, h, hp => by
    obtain ⟨h1, h2⟩ := List.pairwise_cons.1 hp
    have hy := h y (by simp)
    have ih := bits_fold hn ks (minus a y) (fun z hz => ⟨(h z (by simp [hz])).1, fun i hi => by
      have hz2 := (h z (by simp [hz])).2 i hi
      refine ⟨hz2.1, ?_⟩
      rw [testBit_minus hy.1 (by omega), hz2.2]
      cases hyi : y.testBit i
      · rfl
      · exact absurd ⟨hyi, hi⟩ (h1 z hz i)⟩) h2
    rw [List.flatMap_cons, List.foldl_cons, List.append_assoc]
    exact (bits_minus hn hy.1 (fun i hi => (hy.2 i hi).2)).trans (ih.append_left _)
structure Lam (inner : List Nat) (n : Nat) : Prop where
  u : ∀ y ∈ inner, U64 y
  sub : ∀ y ∈ inner, ∀ i, y.testBit i = true → i < n
  two : ∀ y ∈ inner, 2 ≤ (bitsN n y).length
  lam : ∀ y ∈ inner, ∀ z ∈ inner, withinB y z = true ∨ withinB z y = true ∨ y &&& z = 0
  nd : inner.Nodup
theorem isKid_parts {inner : List Nat} {x y : Nat} (h : isKid inner x y = true) : y ≠ x ∧ withinB y x = true ∧ ∀ z ∈ inner, midB x y z = false := by
  unfold isKid at h
  simp only [Bool.and_eq_true, decide_eq_true_eq, Bool.not_eq_true'] at h
  refine ⟨h.1.1, h.1.2, fun z hz => ?_⟩
  obtain ⟨j, hj, e⟩ := List.getElem_of_mem hz
  have := any_false h.2 hj
  have hg : gn inner j = z := by simp [gn, hj, e]
  rw [hg] at this; exact this
theorem kids_apart {inner : List Nat} {n x : Nat} (h : Lam inner n) : (kidsX inner x).Pairwise Apart := by
  unfold kidsX
  refine List.Pairwise.imp_of_mem ?_ (List.Pairwise.filter _ h.nd)
  intro y z hy hz hne i hi
  obtain ⟨hy1, hy2⟩ := List.mem_filter.1 hy
  obtain ⟨hz1, hz2⟩ := List.mem_filter.1 hz
  obtain ⟨a1, a2, a3⟩ := isKid_parts hy2
  obtain ⟨b1, b2, b3⟩ := isKid_parts hz2
  rcases h.lam y hy1 z hz1 with h1 | h1 | h1
  · have := a3 z hz1
    unfold midB at this
    simp [b1, b2, h1, Ne.symm hne] at this
  · have := b3 y hy1
    unfold midB at this
    simp [a1, a2, h1, hne] at this
  · have : (y &&& z).testBit i = true := by rw [Nat.testBit_and, hi.1, hi.2]; rfl
    rw [h1] at this; simp at this
theorem perm_flatMap {α β : Type} {f g : α → List β} : ∀ l : List α, (∀ a ∈ l, (f a).Perm (g a)) → (l.flatMap f).Perm (l.flatMap g)
  | [], _ => List.Perm.refl _
  | a :: l, h => by
    rw [List.flatMap_cons, List.flatMap_cons]
    exact (h a (by simp)).append (perm_flatMap l fun b hb => h b (by simp [hb]))
/-- A part as it should be: inner parts without a name, leaves named, not one child. -/
def PartOk (s : RT) : Prop := (s.kids ≠ [] → s.nm.size = 0) ∧ (s.kids = [] → namedB s.nm.data.toList = true) ∧ s.kids.length ≠ 1
def fltN (l : List ByteArray) : List ByteArray := l.filter fun s => decide (s.size ≠ 0)
theorem fltN_app (a b : List ByteArray) : fltN (a ++ b) = fltN a ++ fltN b := List.filter_append _ _
theorem leafR_node {nm : ByteArray} {ks : List RT} (h : nm.size = 0) : leafR (.node nm ks) = ks.flatMap leafR := by
  have key : ∀ ks : List RT, fltN (nsRs ks) = ks.flatMap leafR := by
    intro ks
    induction ks with
    | nil => rfl
    | cons r rs ih => rw [nsRs, fltN_app, ih, List.flatMap_cons]; rfl
  show fltN (nsR _) = _
  rw [nsR, ← key]
  unfold fltN
  rw [List.filter_cons_of_neg (by simp [h])]
theorem leafR_leaf {nm : ByteArray} (h : nm.size ≠ 0) : leafR (.node nm []) = [nm] := by
  show List.filter _ (nsR _) = _
  rw [nsR, nsRs, List.filter_cons_of_pos (by simpa using h)]; rfl
mutual
theorem size_le : ∀ r : RT, (∀ s ∈ subR r, PartOk s) → sizeR r + 1 ≤ 2 * (leafR r).length
  | .node nm [], h => by
    have h1 : namedB nm.data.toList = true := (h (.node nm []) (by rw [subR]; simp)).2.1 rfl
    rw [leafR_leaf (named_size h1)]; simp [sizeR, sizeRs]
  | .node nm (k :: ks), h => by
    have h0 := h (.node nm (k :: ks)) (by rw [subR]; simp)
    have h1 : nm.size = 0 := h0.1 (by simp [RT.kids])
    have h2 : (k :: ks).length ≠ 1 := h0.2.2
    rw [leafR_node h1]
    have h3 := sizes_le (k :: ks) (fun s hs => h s (by rw [subR]; exact List.mem_cons_of_mem _ hs))
    rw [List.length_cons] at h2 h3
    rw [sizeR]; omega
theorem sizes_le : ∀ rs : List RT, (∀ s ∈ subRs rs, PartOk s) → sizeRs rs + rs.length ≤ 2 * (rs.flatMap leafR).length
  | [], _ => by simp [sizeRs]
  | r :: rs, h => by
    have h1 := size_le r (fun s hs => h s (by rw [subRs]; exact List.mem_append_left _ hs))
    have h2 := sizes_le rs (fun s hs => h s (by rw [subRs]; exact List.mem_append_right _ hs))
    rw [sizeRs, List.flatMap_cons, List.length_append, List.length_cons]; omega
end
theorem growR_ok {names : List ByteArray} {inner : List Nat} (hn : names.length ≤ 32) (hnm : ∀ s, s < names.length → namedB (gs names s).data.toList = true) (hL : Lam inner names.length) : ∀ (d x : Nat), x < d → U64 x → (∀ i, x.testBit i = true → i < names.length) → 2 ≤ (bitsN names.length x).length →
    (leafR (growR names inner d x)).Perm ((bitsN names.length x).map (gs names)) ∧ ∀ s ∈ subR (growR names inner d x), PartOk s
  | 0, _, h, _, _, _ => by omega
  | d + 1, x, h, hx, hs, h2 => by
    have hk : ∀ y ∈ kidsX inner x, y ∈ inner ∧ isKid inner x y = true := fun y hy => List.mem_filter.1 hy
    have hsub : ∀ y ∈ kidsX inner x, U64 y ∧ (∀ i, y.testBit i = true → i < names.length ∧ x.testBit i = true) := fun y hy =>
      ⟨hL.u y (hk y hy).1, fun i hi => ⟨hL.sub y (hk y hy).1 i hi, (withinB_iff (hL.u y (hk y hy).1) hx).1 (isKid_parts (hk y hy).2).2.1 i hi⟩⟩
    have ih := fun (y : Nat) (hy : y ∈ kidsX inner x) => growR_ok hn hnm hL d y (by
      have := isKid_lt hx (hL.u y (hk y hy).1) (hk y hy).2
      omega) (hL.u y (hk y hy).1) (hL.sub y (hk y hy).1) (hL.two y (hk y hy).1)
    have hf := bits_fold hn (kidsX inner x) x hsub (kids_apart hL)
    have hlv : (leavesN names (leftX inner x) names.length).flatMap leafR = (bitsN names.length (leftX inner x)).map (gs names) := by
      unfold leavesN
      show (List.map (leafN names) (bitsN names.length (leftX inner x))).flatMap leafR = _
      rw [List.flatMap_map]
      have key : ∀ l : List Nat, (∀ i ∈ l, i < names.length) → (l.flatMap fun a => leafR (leafN names a)) = l.map (gs names) := by
        intro l
        induction l with
        | nil => intro _; rfl
        | cons a l ihl =>
          intro hl
          rw [List.flatMap_cons, ihl (fun i hi => hl i (by simp [hi])), List.map_cons]
          unfold leafN
          rw [leafR_leaf (named_size (hnm a (hl a (by simp))))]; rfl
      exact key _ (fun i hi => (mem_bitsN.1 hi).1)
    have h0 : (ByteArray.empty).size = 0 := rfl
    constructor
    · rw [growR, leafR_node h0, List.flatMap_append, hlv, List.flatMap_map]
      have h3 : ((kidsX inner x).flatMap fun y => leafR (growR names inner d y)).Perm ((kidsX inner x).flatMap fun y => (bitsN names.length y).map (gs names)) := perm_flatMap _ fun y hy => (ih y hy).1
      refine (h3.append_right _).trans ?_
      rw [← List.map_flatMap, ← List.map_append]
      exact (hf.map (gs names)).symm
    · intro s hsm
      rw [growR, subR, List.mem_cons] at hsm
      rcases hsm with rfl | hsm
      · have hlen : ((kidsX inner x).map (growR names inner d) ++ leavesN names (leftX inner x) names.length).length = (kidsX inner x).length + (bitsN names.length (leftX inner x)).length := by
          rw [List.length_append, List.length_map]; unfold leavesN bitsN; rw [List.length_map]
        have h4 : 2 ≤ (kidsX inner x).length + (bitsN names.length (leftX inner x)).length := by
          cases hkx : kidsX inner x with
          | nil =>
            have : leftX inner x = x := by unfold leftX; rw [hkx]; rfl
            rw [this]; simp only [List.length_nil]; omega
          | cons y l =>
            cases l with
            | cons z l => simp only [List.length_cons]; omega
            | nil =>
              have hy : y ∈ kidsX inner x := by rw [hkx]; simp
              have hl : leftX inner x = minus x y := by unfold leftX; rw [hkx]; rfl
              cases hb : bitsN names.length (leftX inner x) with
              | cons b bs => simp only [List.length_cons, List.length_nil]; omega
              | nil =>
                exfalso
                have hw : withinB x y = true := (withinB_iff hx (hsub y hy).1).2 fun i hi => by
                  cases hyi : y.testBit i with
                  | true => rfl
                  | false =>
                    have hin : i ∈ bitsN names.length (leftX inner x) := mem_bitsN.2 ⟨hs i hi, by
                      rw [hl, testBit_minus (hsub y hy).1 (by have := hs i hi; omega), hi, hyi]; rfl⟩
                    rw [hb] at hin; cases hin
                have h5 := within_le hx (hsub y hy).1 hw
                have h6 := isKid_lt hx (hsub y hy).1 (hk y hy).2
                omega
        refine ⟨fun _ => h0, fun e => ?_, ?_⟩
        · have e : (kidsX inner x).map (growR names inner d) ++ leavesN names (leftX inner x) names.length = [] := e
          rw [e] at hlen; simp only [List.length_nil] at hlen; omega
        · show ((kidsX inner x).map (growR names inner d) ++ leavesN names (leftX inner x) names.length).length ≠ 1
          rw [hlen]; omega
      · rw [subRs_flat, List.flatMap_append, List.mem_append] at hsm
        rcases hsm with hsm | hsm
        · obtain ⟨q, hq, hs2⟩ := List.mem_flatMap.1 hsm
          obtain ⟨y, hy, rfl⟩ := List.mem_map.1 hq
          exact (ih y hy).2 s hs2
        · obtain ⟨q, hq, hs2⟩ := List.mem_flatMap.1 hsm
          unfold leavesN at hq
          obtain ⟨i, hi, rfl⟩ := List.mem_map.1 hq
          have hi2 : i < names.length := List.mem_range.1 (List.mem_filter.1 hi).1
          unfold leafN at hs2
          rw [subR, subRs] at hs2
          obtain rfl : s = .node (gs names i) [] := by simpa using hs2
          exact ⟨fun e => absurd rfl e, fun _ => hnm i hi2, by simp [RT.kids]⟩
end Go.Proofs.Ytkfndaebmbnmaaa
namespace Go.Proofs.Ytkfndaebmbnmaaa
theorem mxK_ge (l : List Int) : ∀ {n k : Nat}, k < n → gi l k ≤ mxK l n
  | 0, k, h => by omega
  | n + 1, k, h => by
    rw [mxK]
    by_cases e : k = n
    · subst e; omega
    · have := mxK_ge l (n := n) (k := k) (by omega); omega
theorem mxL_ge {l : List Int} {x : Int} (h : x ∈ l) : x ≤ mxL l := by
  obtain ⟨k, hk, e⟩ := List.getElem_of_mem h
  have h1 := mxK_ge l hk
  have h2 : gi l k = x := by simp [gi, hk, e]
  rw [h2] at h1; exact h1
theorem innK_nodup (l : List Grp) (all : Nat) : ∀ k, (innK l all k).Nodup
  | 0 => List.nodup_nil
  | k + 1 => by
    have ih := innK_nodup l all k
    unfold innK
    split
    · rename_i hc
      rw [List.nodup_append]
      refine ⟨ih, by simp, fun a ha b hb e => ?_⟩
      obtain rfl : b = ofS (gg l k).src := by simpa using hb
      subst e; exact hc.2.2 ha
    · exact ih
/-- What groups have that Tree does not refuse. -/
structure ShOk (names : List ByteArray) (l : List Grp) : Prop where
  pos : 0 < names.length
  le : names.length ≤ 32
  nm : ∀ k, k < names.length → namedB (gs names k).data.toList = true
  nd : ∀ j k, j < k → k < names.length → gs names k ≠ gs names j
  gc : gcErr l = 0
  far : ∀ k, k < l.length → ∀ x ∈ (gg l k).src, x < names.length
  cf : ∀ i k, i < k → k < l.length → confB (ofS (gg l i).src) (ofS (gg l k).src) = false
theorem shErr_ok {names : List ByteArray} {l : List Grp} (h : shErr names l = 0) : ShOk names l := by
  unfold shErr at h
  split at h
  · cases h
  · rename_i h1
    split at h
    · cases h
    · rename_i h2
      split at h
      · rename_i h3; exact absurd h h3
      · rename_i h3
        have h3 : firstNZ (nmErr names) names.length = 0 := by
          by_cases e : firstNZ (nmErr names) names.length = 0
          · exact e
          · exact absurd e h3
        split at h
        · rename_i h4; exact absurd h h4
        · rename_i h4
          have h4 : gcErr l = 0 := by
            by_cases e : gcErr l = 0
            · exact e
            · exact absurd e h4
          split at h
          · cases h
          · rename_i h5
            split at h
            · cases h
            · rename_i h6
              have h6 : cfL l = [] := by
                by_cases e : cfL l = []
                · exact e
                · exact absurd e h6
              have hnm : ∀ k, k < names.length → namedB (gs names k).data.toList = true ∧ ((List.range k).any fun j => decide (gs names k = gs names j)) = false := fun k hk => by
                have := firstNZ_eq_zero h3 k hk
                unfold nmErr at this
                split at this
                · cases this
                · rename_i q1
                  split at this
                  · cases this
                  · rename_i q2
                    exact ⟨by simpa using q1, by simpa using q2⟩
              have h5 : farB l names.length = false := by simpa using h5
              unfold cfL at h6
              rw [if_pos h4] at h6
              refine ⟨by omega, by omega, fun k hk => (hnm k hk).1, fun j k hj hk => by
                have := any_false (hnm k hk).2 hj
                simpa using this, h4, fun k hk x hx => ?_, fun i k hik hk => ?_⟩
              · have h7 := any_false h5 hk
                have h8 := mxL_ge hx
                have h9 : ¬ ((names.length : Int) ≤ mxL (gg l k).src) := by simpa using h7
                omega
              · cases hc : confB (ofS (gg l i).src) (ofS (gg l k).src) with
                | false => rfl
                | true =>
                  exfalso
                  have hm : [(i : Int), (k : Int)] ∈ cfK l l.length := by
                    unfold cfK cfRow
                    refine List.mem_flatMap.2 ⟨i, List.mem_range.2 (by omega), List.mem_map.2 ⟨k, List.mem_filter.2 ⟨List.mem_range.2 hk, ?_⟩, rfl⟩⟩
                    unfold cfB
                    simp [hik, hc]
                  rw [h6] at hm; cases hm
section
variable {names : List ByteArray} {l : List Grp}
theorem ShOk.small (h : ShOk names l) {k : Nat} (hk : k < l.length) : Small (gg l k).src := (srcOk_small ((gcErr_zero h.gc).2 k hk).2.2.2).1
theorem ShOk.bits (h : ShOk names l) {k : Nat} (hk : k < l.length) {i : Nat} : (ofS (gg l k).src).testBit i = true ↔ (i : Int) ∈ (gg l k).src := testBit_ofS (h.small hk) i
theorem two_bits {n x a b : Nat} (hab : a ≠ b) (ha : a ∈ bitsN n x) (hb : b ∈ bitsN n x) : 2 ≤ (bitsN n x).length := by
  have h1 : [a, b].Nodup := by simp [hab]
  have h2 : [a, b] ⊆ bitsN n x := fun y hy => by
    rcases List.mem_cons.1 hy with e | hy
    · rw [e]; exact ha
    · have e : y = b := by simpa using hy
      rw [e]; exact hb
  have := h1.length_le_of_subset h2
  simpa using this
theorem conf_cases {a b : Nat} (h : confB a b = false) : withinB a b = true ∨ withinB b a = true ∨ a &&& b = 0 := by
  unfold confB at h
  by_cases e : a &&& b = 0
  · exact .inr (.inr e)
  · cases h1 : withinB a b
    · cases h2 : withinB b a
      · rw [h1, h2] at h; simp [e] at h
      · exact .inr (.inl rfl)
    · exact .inl rfl
theorem ShOk.lam (h : ShOk names l) : Lam (innL l (allN names.length)) names.length := by
  refine ⟨fun y hy => ?_, fun y hy i hi => ?_, fun y hy => ?_, fun y hy z hz => ?_, innK_nodup _ _ _⟩
  · obtain ⟨j, hj, rfl, _⟩ := innK_mem hy
    exact ofS_u64 (h.small hj)
  · obtain ⟨j, hj, rfl, _⟩ := innK_mem hy
    have := h.far j hj _ ((h.bits hj).1 hi); omega
  · obtain ⟨j, hj, rfl, h1, _⟩ := innK_mem hy
    obtain ⟨hs, _, hm⟩ := srcOk_small ((gcErr_zero h.gc).2 j hj).2.2.2
    obtain ⟨a, ha, _⟩ := small_mem hs (gi_mem (l := (gg l j).src) (k := 0) (by omega))
    obtain ⟨b, hb, _⟩ := small_mem hs (gi_mem (l := (gg l j).src) (k := 1) h1)
    have h2 := hm 1 (by omega) h1
    have hma : (a : Int) ∈ (gg l j).src := by rw [← ha]; exact gi_mem (by omega)
    have hmb : (b : Int) ∈ (gg l j).src := by rw [← hb]; exact gi_mem h1
    refine two_bits (a := a) (b := b) (by
      have e : (1 : Nat) - 1 = 0 := rfl
      rw [e, ha, hb] at h2; omega) (mem_bitsN.2 ⟨?_, (h.bits hj).2 hma⟩) (mem_bitsN.2 ⟨?_, (h.bits hj).2 hmb⟩)
    · have := h.far j hj _ hma; omega
    · have := h.far j hj _ hmb; omega
  · obtain ⟨j, hj, rfl, _⟩ := innK_mem hy
    obtain ⟨k, hk, rfl, _⟩ := innK_mem hz
    rcases Nat.lt_trichotomy j k with e | e | e
    · exact conf_cases (h.cf j k e hk)
    · subst e
      exact .inl ((withinB_iff (ofS_u64 (h.small hj)) (ofS_u64 (h.small hj))).2 fun i hi => hi)
    · rcases conf_cases (h.cf k j e hj) with q | q | q
      · exact .inr (.inl q)
      · exact .inl q
      · exact .inr (.inr (by rw [Nat.and_comm]; exact q))
theorem all_bits (n : Nat) : bitsN n (allN n) = List.range n := by
  unfold bitsN allN
  rw [List.filter_eq_self]
  intro i hi
  have : i < n := List.mem_range.1 hi
  rw [Nat.testBit_two_pow_sub_one]; simpa using this
/-- The rose tree of the groups. -/
def shR (names : List ByteArray) (l : List Grp) : RT := growR names (innL l (allN names.length)) (allN names.length + 1) (allN names.length)
theorem range_gs (names : List ByteArray) : (List.range names.length).map (gs names) = names := by
  refine List.ext_getElem (by simp) fun i h1 h2 => ?_
  simp [gs, h2]
theorem shR_ok (h : ShOk names l) (h2 : 2 ≤ names.length) : (leafR (shR names l)).Perm names ∧ ∀ s ∈ subR (shR names l), PartOk s := by
  have hall : U64 (allN names.length) := by have := all_lt h.le; unfold U64; omega
  have := growR_ok (inner := innL l (allN names.length)) h.le h.nm h.lam (allN names.length + 1) (allN names.length) (by omega) hall (fun i hi => by
    unfold allN at hi
    rw [Nat.testBit_two_pow_sub_one] at hi; simpa using hi) (by rw [all_bits]; simpa using h2)
  rw [all_bits, range_gs] at this
  exact this
theorem names_nodup (h : ShOk names l) : names.Nodup := by
  unfold List.Nodup
  rw [List.pairwise_iff_getElem]
  intro i j hi hj hij e
  have := h.nd i j hij hj
  simp [gs, hi, hj] at this
  exact this e.symm
theorem shR_good (h : ShOk names l) (h2 : 2 ≤ names.length) : GoodR (shR names l) := by
  obtain ⟨h3, h4⟩ := shR_ok h h2
  exact ⟨fun s hs hk => (h4 s hs).1 hk, fun s hs hk => (h4 s hs).2.1 hk, h3.nodup_iff.2 (names_nodup h)⟩
theorem shR_size (h : ShOk names l) (h2 : 2 ≤ names.length) : sizeR (shR names l) + 1 ≤ 2 * names.length := by
  obtain ⟨h3, h4⟩ := shR_ok h h2
  have := size_le _ h4
  rw [h3.length_eq] at this; exact this
theorem rawT_R (h : ShOk names l) : rawT names l = flat (shR names l) := rawT_flat names l h.le h.gc
theorem rawT_valid (h : ShOk names l) (h2 : 2 ≤ names.length) : treeErr (rawT names l) = 0 := by
  rw [rawT_R h]
  have := shR_size h h2
  have := h.le
  exact treeErr_flat (shR_good h h2) (by omega)
/-- The bound that shTree_t asks. -/
theorem rawT_small (h : ShOk names l) (h2 : 2 ≤ names.length) : (rawT names l).ps.length ≤ 63 := by
  rw [rawT_R h, flat_ps]
  have := shR_size h h2
  have := h.le
  omega
/-- The tree of Tree: the sorted rose tree, numbered. -/
theorem shTree_two (h : shErr names l = 0) (h2 : 2 ≤ names.length) : shTree names l = flat (sortR (shR names l)) ∧ shRes names l = 0 := by
  have hk := shErr_ok h
  have hv := rawT_valid hk h2
  unfold shTree shRes
  rw [if_neg (by simp [h]), if_neg (by omega), if_pos hv, if_neg (by simp [h]), if_neg (by omega), if_pos hv, canT_flat hv, rawT_R hk, toR_flat]
  exact ⟨rfl, rfl⟩
end
end Go.Proofs.Ytkfndaebmbnmaaa
namespace Go.Proofs.Ytkfndaebmbnmaaa
theorem nmLt_named : ∀ i, i < 10 → namedB (nmLt i).data.toList = true := by decide +kernel
theorem nmLt_inj : ∀ i, i < 10 → ∀ j, j < 10 → nmLt i = nmLt j → i = j := by decide +kernel
theorem gs_namesA {n k : Nat} (h : k < n) : gs (namesA n) k = nmLt k := by simp [gs, namesA, h]
theorem namesA_err {n : Nat} (hn : n ≤ 10) : firstNZ (nmErr (namesA n)) (namesA n).length = 0 := by
  refine firstNZ_zero fun k hk => ?_
  rw [namesA_len] at hk
  unfold nmErr
  rw [gs_namesA hk, if_neg (by rw [nmLt_named k (by omega)]; decide), if_neg]
  intro e
  obtain ⟨j, hj, e⟩ := List.any_eq_true.1 e
  have hj : j < k := List.mem_range.1 hj
  rw [gs_namesA (show j < n by omega)] at e
  have := nmLt_inj k (by omega) j (by omega) (of_decide_eq_true e)
  omega
/-- Why there is no tree. -/
theorem shErr_A {n : Nat} {l : List Grp} (h0 : 0 < n) (hn : n ≤ 10) (hg : gcErr l = 0) : shErr (namesA n) l = 0 ∨ shErr (namesA n) l = 2 ∨ shErr (namesA n) l = 17 := by
  unfold shErr
  have hl := namesA_len n
  rw [if_neg (by omega), if_neg (by omega), if_neg (by rw [namesA_err hn]; simp), if_neg (by rw [hg]; simp)]
  split
  · exact .inr (.inl rfl)
  · split
    · exact .inr (.inr rfl)
    · exact .inl rfl
section
variable {names : List ByteArray} {l : List Grp}
theorem PartOk.sort {r : RT} (h : ∀ s ∈ subR r, PartOk s) : ∀ s ∈ subR (sortR r), PartOk s := by
  intro s hs
  obtain ⟨q, hq, rfl⟩ := List.mem_map.1 ((subR_sort r).mem_iff.1 hs)
  obtain ⟨h1, h2, h3⟩ := h q hq
  refine ⟨fun e => ?_, fun e => ?_, ?_⟩
  · rw [sortR_nm]; rw [sortR_kids] at e; exact h1 (fun e2 => e (sortRs_nil.2 e2))
  · rw [sortR_nm]; rw [sortR_kids] at e; exact h2 (sortRs_nil.1 e)
  · rw [sortR_kids, (sortRs_perm q.kids).length_eq, List.length_map]; exact h3
theorem one_R (h1 : names.length = 1) : (⟨[-1], names⟩ : Tre) = flat (.node (gs names 0) []) := by
  unfold flat
  rw [psR, psRs, nsR, nsRs]
  congr 1
  refine List.ext_getElem (by simpa using h1) fun i i1 i2 => ?_
  obtain rfl : i = 0 := by omega
  simp [gs, i1]
/-- The rose tree of Tree's tree. -/
def finR (names : List ByteArray) (l : List Grp) : RT := if names.length = 1 then .node (gs names 0) [] else sortR (shR names l)
theorem shTree_fin (h : shErr names l = 0) : shTree names l = flat (finR names l) := by
  have hk := shErr_ok h
  unfold finR
  by_cases h1 : names.length = 1
  · rw [if_pos h1, ← one_R h1]
    unfold shTree
    rw [if_neg (by simp [h]), if_pos h1]
  · rw [if_neg h1]
    exact (shTree_two h (by have := hk.pos; omega)).1
theorem finR_ok (h : shErr names l = 0) : (leafR (finR names l)).Perm names ∧ (∀ s ∈ subR (finR names l), PartOk s) ∧ sortR (finR names l) = finR names l := by
  have hk := shErr_ok h
  unfold finR
  by_cases h1 : names.length = 1
  · rw [if_pos h1]
    have hnm := hk.nm 0 (by omega)
    refine ⟨?_, fun s hs => ?_, rfl⟩
    · rw [leafR_leaf (named_size hnm)]
      have : [gs names 0] = names := by
        refine List.ext_getElem (by simp [h1]) fun i i1 i2 => ?_
        obtain rfl : i = 0 := by simp at i1; omega
        simp [gs, i2]
      rw [this]
    · rw [subR, subRs] at hs
      obtain rfl : s = .node (gs names 0) [] := by simpa using hs
      exact ⟨fun e => absurd rfl e, fun _ => hnm, by simp [RT.kids]⟩
  · rw [if_neg h1]
    obtain ⟨h3, h4⟩ := shR_ok hk (by have := hk.pos; omega)
    exact ⟨(leafR_sort _).trans h3, PartOk.sort h4, sortR_idem _⟩
theorem finR_good (h : shErr names l = 0) : GoodR (finR names l) ∧ sizeR (finR names l) ≤ 64 := by
  have hk := shErr_ok h
  obtain ⟨h1, h2, _⟩ := finR_ok h
  refine ⟨⟨fun s hs e => (h2 s hs).1 e, fun s hs e => (h2 s hs).2.1 e, h1.nodup_iff.2 (names_nodup hk)⟩, ?_⟩
  have := size_le _ h2
  rw [h1.length_eq] at this
  have := hk.le
  omega
/-- Tree's tree is valid and canonical; its leaves are the names. -/
theorem shTree_law (h : shErr names l = 0) : treeErr (shTree names l) = 0 ∧ canT (shTree names l) = shTree names l ∧ (fltN (shTree names l).ns).Perm names ∧ shRes names l = 0 := by
  have hk := shErr_ok h
  obtain ⟨h1, h2, h3⟩ := finR_ok h
  obtain ⟨h4, h5⟩ := finR_good h
  have h6 := treeErr_flat h4 h5
  rw [shTree_fin h]
  refine ⟨h6, by rw [canT_flat h6, toR_flat, h3], h1, ?_⟩
  by_cases e : names.length = 1
  · unfold shRes; rw [if_neg (by simp [h]), if_pos e]
  · exact (shTree_two h (by have := hk.pos; omega)).2
/-- How often a number stands among the first k. -/
def cntI (ps : List Int) (i : Int) : Nat → Nat
  | 0 => 0
  | k + 1 => if gi ps k = i then cntI ps i k + 1 else cntI ps i k
theorem cnt_kids {ps : List Int} (h : pOkB ps = true) (i : Nat) : ∀ k, k ≤ ps.length → cntI ps (i : Int) k = (kidsK ps i k).length
  | 0, _ => rfl
  | k + 1, hk => by
    rw [cntI, kidsK_succ, List.length_append, cnt_kids h i k (by omega)]
    by_cases e : gi ps k = i
    · have h1 := pOkB_at h (show k < ps.length by omega)
      unfold okp at h1
      have hlt : i < k := by
        by_cases hz : k = 0
        · rw [if_pos hz, e] at h1
          have : (i : Int) = -1 := by simp at h1
          omega
        · rw [if_neg hz, e] at h1
          simp only [Bool.and_eq_true, decide_eq_true_eq] at h1
          omega
      rw [if_pos e, if_pos ⟨hlt, e⟩]; rfl
    · rw [if_neg e, if_neg (fun q => e q.2)]; rfl
theorem hdR_len : ∀ (rs : List RT) (n : Nat), (hdR rs n).length = rs.length
  | [], _ => rfl
  | r :: rs, n => by rw [hdR, List.length_cons, hdR_len rs, List.length_cons]
/-- No node of Tree's tree has one child. -/
theorem shTree_one (h : shErr names l = 0) {i : Nat} (hi : i < (shTree names l).ps.length) : cntI (shTree names l).ps (i : Int) (shTree names l).ps.length ≠ 1 := by
  rw [shTree_fin h] at hi ⊢
  rw [cnt_kids (pOk_flat _) i _ (Nat.le_refl _)]
  show (kidsL _ i).length ≠ 1
  rw [flat_ps] at hi
  have hi2 : i < (subR (finR names l)).length := by rw [subR_len]; exact hi
  have hs : (subR (finR names l))[i]? = some (subR (finR names l))[i] := List.getElem?_eq_getElem hi2
  rw [kids_flat hs, hdR_len]
  exact ((finR_ok h).2.1 _ (List.getElem_mem hi2)).2.2
end
theorem srtL_perm {a b : List (List UInt8)} (h : a.Perm b) : srtL a = srtL b := by
  have tr : ∀ a b c : List UInt8, decide (a ≤ b) = true → decide (b ≤ c) = true → decide (a ≤ c) = true := fun a b c h1 h2 => by
    simp only [decide_eq_true_eq] at *
    exact List.le_trans h1 h2
  have tt : ∀ a b : List UInt8, (decide (a ≤ b) || decide (b ≤ a)) = true := fun a b => by
    simp only [Bool.or_eq_true, decide_eq_true_eq]
    exact List.le_total a b
  refine List.Perm.eq_of_pairwise (le := fun a b => decide (a ≤ b) = true) (fun x y _ _ h1 h2 => ?_) (List.pairwise_mergeSort tr tt a) (List.pairwise_mergeSort tr tt b) (((List.mergeSort_perm a _).trans h).trans (List.mergeSort_perm b _).symm)
  simp only [decide_eq_true_eq] at h1 h2
  exact List.le_antisymm h1 h2
theorem sortS_perm {a b : List ByteArray} (h : a.Perm b) : sortS a = sortS b := by unfold sortS; rw [srtL_perm (h.map toL)]
theorem nmLt_le : ∀ i, i < 10 → ∀ j, j < 10 → i ≤ j → toL (nmLt i) ≤ toL (nmLt j) := by decide +kernel
theorem sortS_A {n : Nat} (hn : n ≤ 10) : sortS (namesA n) = namesA n := by
  unfold sortS srtL
  rw [List.mergeSort_of_pairwise]
  · rw [List.map_map]
    have : (ofL ∘ toL) = id := funext ofL_toL
    rw [this, List.map_id]
  · unfold namesA
    rw [List.map_map]
    refine List.pairwise_map.2 (List.Pairwise.imp_of_mem (fun {a b} ha hb hab => ?_) List.pairwise_lt_range)
    have ha := List.mem_range.1 ha
    have hb := List.mem_range.1 hb
    simpa using nmLt_le a (by omega) b (by omega) (by omega)
/-- The leaves, sorted, are the names. -/
theorem leaves_A {n : Nat} {l : List Grp} (hn : n ≤ 10) (h : shErr (namesA n) l = 0) : sortS (fltN (shTree (namesA n) l).ns) = namesA n := by
  rw [sortS_perm (shTree_law h).2.2.1, sortS_A hn]
/-- The bound that shTree_t asks. -/
theorem raw_small {names : List ByteArray} {l : List Grp} (h : shErr names l = 0) : (rawT names l).ps.length ≤ 1000000 := by
  have hk := shErr_ok h
  by_cases h2 : 2 ≤ names.length
  · have := rawT_small hk h2; omega
  · have h1 : names.length = 1 := by have := hk.pos; omega
    have hin : innL l (allN names.length) = [] := by
      cases hc : innL l (allN names.length) with
      | nil => rfl
      | cons y q =>
        have h3 := hk.lam.two y (by rw [hc]; simp)
        have h4 : (bitsN names.length y).length ≤ names.length := by unfold bitsN; exact Nat.le_trans (List.length_filter_le _ _) (by simp)
        omega
    rw [rawT_R hk, flat_ps]
    unfold shR
    rw [hin, growR]
    have e1 : kidsX [] (allN names.length) = [] := rfl
    rw [e1, List.map_nil, List.nil_append, sizeR]
    have h5 : ∀ k lf, sizeRs (leavesN names lf k) ≤ k := by
      intro k lf
      unfold leavesN
      have : ∀ q : List Nat, sizeRs (q.map (leafN names)) = q.length := by
        intro q
        induction q with
        | nil => rfl
        | cons a q ih => rw [List.map_cons, sizeRs, ih]; unfold leafN; rw [sizeR, sizeRs, List.length_cons]; omega
      rw [this]
      exact Nat.le_trans (List.length_filter_le _ _) (by simp)
    have := h5 names.length (leftX [] (allN names.length))
    omega
end Go.Proofs.Ytkfndaebmbnmaaa
