/- The plain law of SharederrorPairs: sets as lists; the closures of the law. The tree that grow makes is a rose tree, numbered depth first. The rose tree of nested sets: leaves, sizes, no node with one child. The reference's canonical tree is the canonical tree: its order is the sort's order. -/
import Derived.Test.YtgjcfkadioblfaaGreatQ21
import Derived.Test.YtgjcfkadioblfaaGreatQ24
import Derived.Test.YtgjcfkadioblfaaGreatQ13
import Derived.Test.YtgjcfkadioblfaaGreatQ23
import Derived.Test.YtgjcfkadioblfaaGreatQ14
import Derived.Test.YtgjcfkadioblfaaGreatQ18
namespace Go.Proofs.YtgjcfkadioblfaaGreat
open Go.RowKit Go.Deep
theorem testBit_ofK {l : List Int} (h : Small l) (i : Nat) : ∀ {k : Nat}, k ≤ l.length → ((ofK l k).testBit i = true ↔ ∃ j, j < k ∧ gi l j = i)
  | 0, _ => by simp [ofK]
  | k + 1, hk => by
    have ih := testBit_ofK h i (k := k) (by omega)
    have hb := h k (by omega)
    show ((ofK l k ||| 2 ^ (gi l k).toNat).testBit i = true ↔ _)
    rw [Nat.testBit_or, Bool.or_eq_true, ih, Nat.testBit_two_pow, decide_eq_true_eq]
    constructor
    · rintro (⟨j, h1, h2⟩ | h1)
      · exact ⟨j, by omega, h2⟩
      · exact ⟨k, by omega, by omega⟩
    · rintro ⟨j, h1, h2⟩
      by_cases e : j = k
      · subst e; exact .inr (by omega)
      · exact .inl ⟨j, by omega, h2⟩
theorem testBit_ofS {l : List Int} (h : Small l) (i : Nat) : (ofS l).testBit i = true ↔ (i : Int) ∈ l := by
  unfold ofS
  rw [testBit_ofK h i (Nat.le_refl _)]
  constructor
  · rintro ⟨j, h1, h2⟩; rw [← h2]; exact gi_mem h1
  · intro hm
    obtain ⟨j, hj, e⟩ := List.getElem_of_mem hm
    exact ⟨j, hj, by simp [gi, hj, e]⟩
theorem ofS_u64 {l : List Int} (h : Small l) : U64 (ofS l) := Nat.lt_trans (ofS_lt h) (by decide)
theorem small_mem {l : List Int} (h : Small l) {x : Int} (hx : x ∈ l) : ∃ i : Nat, x = i ∧ i < 32 := by
  obtain ⟨j, hj, e⟩ := List.getElem_of_mem hx
  have h1 := h j hj
  have h2 : gi l j = x := by simp [gi, hj, e]
  rw [h2] at h1
  exact ⟨x.toNat, by omega, by omega⟩
theorem within_mem {a b : List Int} (ha : Small a) (hb : Small b) : withinB (ofS a) (ofS b) = true ↔ ∀ x ∈ a, x ∈ b := by
  rw [withinB_iff (ofS_u64 ha) (ofS_u64 hb)]
  constructor
  · intro h x hx
    obtain ⟨i, rfl, _⟩ := small_mem ha hx
    exact (testBit_ofS hb i).1 (h i ((testBit_ofS ha i).2 hx))
  · intro h i hi
    exact (testBit_ofS hb i).2 (h _ ((testBit_ofS ha i).1 hi))
theorem and_mem {a b : List Int} (ha : Small a) (hb : Small b) : ofS a &&& ofS b ≠ 0 ↔ ∃ x ∈ a, x ∈ b := by
  constructor
  · intro h
    have : ∃ i, (ofS a &&& ofS b).testBit i = true := by
      refine Classical.byContradiction fun hn => h (Nat.eq_of_testBit_eq fun i => ?_)
      rw [Nat.zero_testBit]
      cases hc : (ofS a &&& ofS b).testBit i
      · rfl
      · exact absurd ⟨i, hc⟩ hn
    obtain ⟨i, hi⟩ := this
    rw [Nat.testBit_and, Bool.and_eq_true] at hi
    exact ⟨i, (testBit_ofS ha i).1 hi.1, (testBit_ofS hb i).1 hi.2⟩
  · rintro ⟨x, h1, h2⟩ h0
    obtain ⟨i, rfl, _⟩ := small_mem ha h1
    have h3 : (ofS a &&& ofS b).testBit i = true := by rw [Nat.testBit_and, (testBit_ofS ha i).2 h1, (testBit_ofS hb i).2 h2]; rfl
    rw [h0, Nat.zero_testBit] at h3; cases h3
def lacksB (a b : List Int) : Bool := (List.range a.length).any fun j => !decide (gi a j ∈ b)
def commonB (a b : List Int) : Bool := (List.range a.length).any fun j => decide (gi a j ∈ b)
theorem lacksB_iff {a b : List Int} : lacksB a b = true ↔ ∃ x ∈ a, x ∉ b := by
  unfold lacksB
  rw [List.any_eq_true]
  constructor
  · rintro ⟨j, hj, h⟩
    exact ⟨gi a j, gi_mem (List.mem_range.1 hj), by simpa using h⟩
  · rintro ⟨x, hx, h⟩
    obtain ⟨j, hj, e⟩ := List.getElem_of_mem hx
    have h2 : gi a j = x := by simp [gi, hj, e]
    exact ⟨j, List.mem_range.2 hj, by rw [h2]; simpa using h⟩
theorem commonB_iff {a b : List Int} : commonB a b = true ↔ ∃ x ∈ a, x ∈ b := by
  unfold commonB
  rw [List.any_eq_true]
  constructor
  · rintro ⟨j, hj, h⟩
    exact ⟨gi a j, gi_mem (List.mem_range.1 hj), by simpa using h⟩
  · rintro ⟨x, hx, h⟩
    obtain ⟨j, hj, e⟩ := List.getElem_of_mem hx
    have h2 : gi a j = x := by simp [gi, hj, e]
    exact ⟨j, List.mem_range.2 hj, by rw [h2]; simpa using h⟩
theorem conf_lists {a b : List Int} (ha : Small a) (hb : Small b) : confB (ofS a) (ofS b) = (lacksB a b && lacksB b a && commonB a b) := by
  have h1 : withinB (ofS a) (ofS b) = !lacksB a b := by
    rw [Bool.eq_iff_iff, within_mem ha hb, Bool.not_eq_true', ← Bool.not_eq_true, lacksB_iff]
    constructor
    · rintro h ⟨x, h1, h2⟩; exact h2 (h x h1)
    · intro h x hx; exact Classical.byContradiction fun hn => h ⟨x, hx, hn⟩
  have h2 : withinB (ofS b) (ofS a) = !lacksB b a := by
    rw [Bool.eq_iff_iff, within_mem hb ha, Bool.not_eq_true', ← Bool.not_eq_true, lacksB_iff]
    constructor
    · rintro h ⟨x, h1, h2⟩; exact h2 (h x h1)
    · intro h x hx; exact Classical.byContradiction fun hn => h ⟨x, hx, hn⟩
  have h3 : decide (ofS a &&& ofS b ≠ 0) = commonB a b := by
    rw [Bool.eq_iff_iff, decide_eq_true_eq, and_mem ha hb, commonB_iff]
  unfold confB
  rw [h1, h2, h3, Bool.not_not, Bool.not_not]
  cases commonB a b <;> cases lacksB a b <;> cases lacksB b a <;> rfl
end Go.Proofs.YtgjcfkadioblfaaGreat
namespace Go.Proofs.YtgjcfkadioblfaaGreat
def leafN (names : List ByteArray) (s : Nat) : RT := .node (gs names s) []
def leavesN (names : List ByteArray) (left k : Nat) : List RT := ((List.range k).filter fun s => left.testBit s).map (leafN names)
theorem leafK_eq (names : List ByteArray) (left own : Nat) (t : Tre) : ∀ s, leafK names left (own : Int) s t = t.apps (leavesN names left s) own
  | 0 => (apps_nil t own).symm
  | s + 1 => by
    rw [leafK, leafK_eq names left own t s]
    unfold leavesN
    rw [List.range_succ, List.filter_append, List.map_append]
    by_cases h : left.testBit s = true
    · rw [if_pos h, List.filter_cons_of_pos h, List.filter_nil, List.map_cons, List.map_nil, ← apps_app]
      simp [Tre.push, Tre.app, leafN, psR, psRs, nsR, nsRs]
    · rw [if_neg h, List.filter_cons_of_neg h, List.filter_nil, List.map_nil, List.append_nil]
def kidsI (inner : List Nat) (x k : Nat) : List Nat := (inner.take k).filter (isKid inner x)
theorem kidF_eq {g : Nat → Int → Tre → Tre} {gr : Nat → RT} (inner : List Nat) (x : Nat) (hg : ∀ y ∈ inner, isKid inner x y = true → ∀ (p : Int) (t : Tre), g y p t = t.app (gr y) p) (own : Nat) (t : Tre) :
    ∀ k, k ≤ inner.length → kidF g inner x (own : Int) k (x, t) = ((kidsI inner x k).foldl minus x, t.apps ((kidsI inner x k).map gr) own)
  | 0, _ => by rw [kidF]; simp [kidsI, apps_nil]
  | k + 1, hk => by
    have ih := kidF_eq inner x hg own t k (by omega)
    have hgn : gn inner k = inner[k]'(by omega) := by simp [gn, show k < inner.length by omega]
    have hki : kidsI inner x (k + 1) = kidsI inner x k ++ (if isKid inner x (gn inner k) then [gn inner k] else []) := by
      unfold kidsI
      rw [List.take_succ_eq_append_getElem (show k < inner.length by omega), List.filter_append, ← hgn]
      congr 1
      by_cases h : isKid inner x (gn inner k) = true
      · rw [if_pos h, List.filter_cons_of_pos h, List.filter_nil]
      · rw [if_neg h, List.filter_cons_of_neg h, List.filter_nil]
    rw [kidF, ih, hki]
    by_cases h : isKid inner x (gn inner k) = true
    · rw [if_pos h, if_pos h, hg _ (by rw [hgn]; exact List.getElem_mem _) h, apps_app, List.foldl_append, List.map_append]; rfl
    · rw [if_neg h, if_neg h, List.append_nil]
def kidsX (inner : List Nat) (x : Nat) : List Nat := inner.filter (isKid inner x)
def leftX (inner : List Nat) (x : Nat) : Nat := (kidsX inner x).foldl minus x
/-- The rose tree that grow makes. -/
def growR (names : List ByteArray) (inner : List Nat) : Nat → Nat → RT
  | 0, _ => .node ByteArray.empty []
  | d + 1, x => .node ByteArray.empty ((kidsX inner x).map (growR names inner d) ++ leavesN names (leftX inner x) names.length)
theorem isKid_lt {inner : List Nat} {x y : Nat} (hx : U64 x) (hy : U64 y) (h : isKid inner x y = true) : y < x := by
  unfold isKid at h
  simp only [Bool.and_eq_true, decide_eq_true_eq] at h
  have := within_le hy hx h.1.2
  have := h.1.1
  omega
theorem growF_eq (names : List ByteArray) (inner : List Nat) (hi : ∀ y ∈ inner, U64 y) : ∀ (d x : Nat) (p : Int) (t : Tre), x < d → U64 x → growF names inner d x p t = t.app (growR names inner d x) p
  | 0, _, _, _, h, _ => by omega
  | d + 1, x, p, t, h, hx => by
    have hg : ∀ y ∈ inner, isKid inner x y = true → ∀ (p : Int) (t : Tre), growF names inner d y p t = t.app (growR names inner d y) p := fun y hy hk p t => by
      have := isKid_lt hx (hi y hy) hk
      exact growF_eq names inner hi d y p t (by omega) (hi y hy)
    rw [growF, kidF_eq inner x hg t.ps.length (t.push p ByteArray.empty) inner.length (Nat.le_refl _)]
    show leafK names _ _ _ _ = _
    rw [leafK_eq, apps_apps, growR]
    unfold kidsI
    rw [List.take_length]
    simp [Tre.apps, Tre.app, Tre.push, psR, nsR, kidsX, leftX]
/-- The tree that Tree puts into canonical form. -/
theorem rawT_flat (names : List ByteArray) (l : List Grp) (hn : names.length ≤ 32) (hc : gcErr l = 0) : rawT names l = flat (growR names (innL l (allN names.length)) (allN names.length + 1) (allN names.length)) := by
  have hall : U64 (allN names.length) := by
    unfold U64 allN
    have : 2 ^ names.length ≤ 2 ^ 32 := Nat.pow_le_pow_right (by decide) hn
    omega
  unfold rawT
  rw [growF_eq names _ (fun y hy => by
    obtain ⟨j, hj, e⟩ := List.getElem_of_mem hy
    have := inn_u64 hc (allN names.length) l.length j (Nat.le_refl _)
    unfold innL at hj e
    simp only [gn, List.getD_eq_getElem?_getD, List.getElem?_eq_getElem hj, Option.getD_some] at this
    rw [e] at this; exact this) _ _ _ _ (by omega) hall]
  rfl
end Go.Proofs.YtgjcfkadioblfaaGreat
namespace Go.Proofs.YtgjcfkadioblfaaGreat
def bitsN (n x : Nat) : List Nat := (List.range n).filter fun i => x.testBit i
theorem mem_bitsN {n x i : Nat} : i ∈ bitsN n x ↔ i < n ∧ x.testBit i = true := by unfold bitsN; rw [List.mem_filter, List.mem_range]
theorem testBit_minus {a b i : Nat} (hb : U64 b) (hi : i < 32) : (minus a b).testBit i = (a.testBit i && !b.testBit i) := by
  unfold minus
  have e : 18446744073709551615 - b = 2 ^ 64 - (b + 1) := by unfold U64 at hb; omega
  have hb2 : b < 2 ^ 64 := hb
  rw [e, Nat.testBit_and, Nat.testBit_two_pow_sub_succ hb2]
  simp [show i < 64 by omega]
theorem filter_split (p q r : Nat → Bool) : ∀ l : List Nat, (∀ i ∈ l, p i = (q i || r i) ∧ ¬ (q i = true ∧ r i = true)) → (l.filter p).Perm (l.filter q ++ l.filter r)
  | [], _ => List.Perm.refl _
  | a :: l, h => by
    have ih := filter_split p q r l (fun i hi => h i (by simp [hi]))
    obtain ⟨h1, h2⟩ := h a (by simp)
    cases hq : q a
    · cases hr : r a
      · rw [hq, hr] at h1
        rw [List.filter_cons_of_neg (by rw [h1]; simp), List.filter_cons_of_neg (by rw [hq]; simp), List.filter_cons_of_neg (by rw [hr]; simp)]; exact ih
      · rw [hq, hr] at h1
        rw [List.filter_cons_of_pos (by rw [h1]; simp), List.filter_cons_of_neg (by rw [hq]; simp), List.filter_cons_of_pos hr]
        exact (ih.cons a).trans List.perm_middle.symm
    · cases hr : r a
      · rw [hq, hr] at h1
        rw [List.filter_cons_of_pos (by rw [h1]; simp), List.filter_cons_of_pos hq, List.filter_cons_of_neg (by rw [hr]; simp)]
        exact ih.cons a
      · exact absurd ⟨hq, hr⟩ h2
def Apart (y z : Nat) : Prop := ∀ i, ¬ (y.testBit i = true ∧ z.testBit i = true)
theorem bits_minus {n a b : Nat} (hn : n ≤ 32) (hb : U64 b) (hs : ∀ i, b.testBit i = true → a.testBit i = true) : (bitsN n a).Perm (bitsN n b ++ bitsN n (minus a b)) := by
  unfold bitsN
  refine filter_split _ _ _ _ fun i hi => ?_
  have hi : i < n := List.mem_range.1 hi
  rw [testBit_minus hb (by omega)]
  have := hs i
  cases h1 : a.testBit i <;> cases h2 : b.testBit i <;> simp_all
theorem bits_fold {n : Nat} (hn : n ≤ 32) : ∀ (ks : List Nat) (a : Nat), (∀ y ∈ ks, U64 y ∧ (∀ i, y.testBit i = true → i < n ∧ a.testBit i = true)) → ks.Pairwise Apart → (bitsN n a).Perm (ks.flatMap (bitsN n) ++ bitsN n (ks.foldl minus a))
  | [], _, _, _ => List.Perm.refl _
  | y :: ks, a, h, hp => by
    obtain ⟨h1, h2⟩ := List.pairwise_cons.1 hp
    have hy := h y (by simp)
    have ih := bits_fold hn ks (minus a y) (fun z hz => ⟨(h z (by simp [hz])).1, fun i hi => by
      have hz2 := (h z (by simp [hz])).2 i hi
      refine ⟨hz2.1, ?_⟩
      rw [testBit_minus hy.1 (by omega), hz2.2]
      cases hyi : y.testBit i
      · rfl
      · exact absurd ⟨hyi, hi⟩ (h1 z hz i)⟩) h2
    rw [List.flatMap_cons, List.foldl_cons, List.append_assoc]
    exact (bits_minus hn hy.1 (fun i hi => (hy.2 i hi).2)).trans (ih.append_left _)
structure Lam (inner : List Nat) (n : Nat) : Prop where
  u : ∀ y ∈ inner, U64 y
  sub : ∀ y ∈ inner, ∀ i, y.testBit i = true → i < n
  two : ∀ y ∈ inner, 2 ≤ (bitsN n y).length
  lam : ∀ y ∈ inner, ∀ z ∈ inner, withinB y z = true ∨ withinB z y = true ∨ y &&& z = 0
  nd : inner.Nodup
theorem isKid_parts {inner : List Nat} {x y : Nat} (h : isKid inner x y = true) : y ≠ x ∧ withinB y x = true ∧ ∀ z ∈ inner, midB x y z = false := by
  unfold isKid at h
  simp only [Bool.and_eq_true, decide_eq_true_eq, Bool.not_eq_true'] at h
  refine ⟨h.1.1, h.1.2, fun z hz => ?_⟩
  obtain ⟨j, hj, e⟩ := List.getElem_of_mem hz
  have := any_false h.2 hj
  have hg : gn inner j = z := by simp [gn, hj, e]
  rw [hg] at this; exact this
theorem kids_apart {inner : List Nat} {n x : Nat} (h : Lam inner n) : (kidsX inner x).Pairwise Apart := by
  unfold kidsX
  refine List.Pairwise.imp_of_mem ?_ (List.Pairwise.filter _ h.nd)
  intro y z hy hz hne i hi
  obtain ⟨hy1, hy2⟩ := List.mem_filter.1 hy
  obtain ⟨hz1, hz2⟩ := List.mem_filter.1 hz
  obtain ⟨a1, a2, a3⟩ := isKid_parts hy2
  obtain ⟨b1, b2, b3⟩ := isKid_parts hz2
  rcases h.lam y hy1 z hz1 with h1 | h1 | h1
  · have := a3 z hz1
    unfold midB at this
    simp [b1, b2, h1, Ne.symm hne] at this
  · have := b3 y hy1
    unfold midB at this
    simp [a1, a2, h1, hne] at this
  · have : (y &&& z).testBit i = true := by rw [Nat.testBit_and, hi.1, hi.2]; rfl
    rw [h1] at this; simp at this
theorem perm_flatMap {α β : Type} {f g : α → List β} : ∀ l : List α, (∀ a ∈ l, (f a).Perm (g a)) → (l.flatMap f).Perm (l.flatMap g)
  | [], _ => List.Perm.refl _
  | a :: l, h => by
    rw [List.flatMap_cons, List.flatMap_cons]
    exact (h a (by simp)).append (perm_flatMap l fun b hb => h b (by simp [hb]))
/-- A part as it should be: inner parts without a name, leaves named, not one child. -/
def PartOk (s : RT) : Prop := (s.kids ≠ [] → s.nm.size = 0) ∧ (s.kids = [] → namedB s.nm.data.toList = true) ∧ s.kids.length ≠ 1
def fltN (l : List ByteArray) : List ByteArray := l.filter fun s => decide (s.size ≠ 0)
theorem fltN_app (a b : List ByteArray) : fltN (a ++ b) = fltN a ++ fltN b := List.filter_append _ _
theorem leafR_node {nm : ByteArray} {ks : List RT} (h : nm.size = 0) : leafR (.node nm ks) = ks.flatMap leafR := by
  have key : ∀ ks : List RT, fltN (nsRs ks) = ks.flatMap leafR := by
    intro ks
    induction ks with
    | nil => rfl
    | cons r rs ih => rw [nsRs, fltN_app, ih, List.flatMap_cons]; rfl
  show fltN (nsR _) = _
  rw [nsR, ← key]
  unfold fltN
  rw [List.filter_cons_of_neg (by simp [h])]
theorem leafR_leaf {nm : ByteArray} (h : nm.size ≠ 0) : leafR (.node nm []) = [nm] := by
  show List.filter _ (nsR _) = _
  rw [nsR, nsRs, List.filter_cons_of_pos (by simpa using h)]; rfl
mutual
theorem size_le : ∀ r : RT, (∀ s ∈ subR r, PartOk s) → sizeR r + 1 ≤ 2 * (leafR r).length
  | .node nm [], h => by
    have h1 : namedB nm.data.toList = true := (h (.node nm []) (by rw [subR]; simp)).2.1 rfl
    rw [leafR_leaf (named_size h1)]; simp [sizeR, sizeRs]
  | .node nm (k :: ks), h => by
    have h0 := h (.node nm (k :: ks)) (by rw [subR]; simp)
    have h1 : nm.size = 0 := h0.1 (by simp [RT.kids])
    have h2 : (k :: ks).length ≠ 1 := h0.2.2
    rw [leafR_node h1]
    have h3 := sizes_le (k :: ks) (fun s hs => h s (by rw [subR]; exact List.mem_cons_of_mem _ hs))
    rw [List.length_cons] at h2 h3
    rw [sizeR]; omega
theorem sizes_le : ∀ rs : List RT, (∀ s ∈ subRs rs, PartOk s) → sizeRs rs + rs.length ≤ 2 * (rs.flatMap leafR).length
  | [], _ => by simp [sizeRs]
  | r :: rs, h => by
    have h1 := size_le r (fun s hs => h s (by rw [subRs]; exact List.mem_append_left _ hs))
    have h2 := sizes_le rs (fun s hs => h s (by rw [subRs]; exact List.mem_append_right _ hs))
    rw [sizeRs, List.flatMap_cons, List.length_append, List.length_cons]; omega
end
theorem growR_ok {names : List ByteArray} {inner : List Nat} (hn : names.length ≤ 32) (hnm : ∀ s, s < names.length → namedB (gs names s).data.toList = true) (hL : Lam inner names.length) : ∀ (d x : Nat), x < d → U64 x → (∀ i, x.testBit i = true → i < names.length) → 2 ≤ (bitsN names.length x).length →
    (leafR (growR names inner d x)).Perm ((bitsN names.length x).map (gs names)) ∧ ∀ s ∈ subR (growR names inner d x), PartOk s
  | 0, _, h, _, _, _ => by omega
  | d + 1, x, h, hx, hs, h2 => by
    have hk : ∀ y ∈ kidsX inner x, y ∈ inner ∧ isKid inner x y = true := fun y hy => List.mem_filter.1 hy
    have hsub : ∀ y ∈ kidsX inner x, U64 y ∧ (∀ i, y.testBit i = true → i < names.length ∧ x.testBit i = true) := fun y hy =>
      ⟨hL.u y (hk y hy).1, fun i hi => ⟨hL.sub y (hk y hy).1 i hi, (withinB_iff (hL.u y (hk y hy).1) hx).1 (isKid_parts (hk y hy).2).2.1 i hi⟩⟩
    have ih := fun (y : Nat) (hy : y ∈ kidsX inner x) => growR_ok hn hnm hL d y (by
      have := isKid_lt hx (hL.u y (hk y hy).1) (hk y hy).2
      omega) (hL.u y (hk y hy).1) (hL.sub y (hk y hy).1) (hL.two y (hk y hy).1)
    have hf := bits_fold hn (kidsX inner x) x hsub (kids_apart hL)
    have hlv : (leavesN names (leftX inner x) names.length).flatMap leafR = (bitsN names.length (leftX inner x)).map (gs names) := by
      unfold leavesN
      show (List.map (leafN names) (bitsN names.length (leftX inner x))).flatMap leafR = _
      rw [List.flatMap_map]
      have key : ∀ l : List Nat, (∀ i ∈ l, i < names.length) → (l.flatMap fun a => leafR (leafN names a)) = l.map (gs names) := by
        intro l
        induction l with
        | nil => intro _; rfl
        | cons a l ihl =>
          intro hl
          rw [List.flatMap_cons, ihl (fun i hi => hl i (by simp [hi])), List.map_cons]
          unfold leafN
          rw [leafR_leaf (named_size (hnm a (hl a (by simp))))]; rfl
      exact key _ (fun i hi => (mem_bitsN.1 hi).1)
    have h0 : (ByteArray.empty).size = 0 := rfl
    constructor
    · rw [growR, leafR_node h0, List.flatMap_append, hlv, List.flatMap_map]
      have h3 : ((kidsX inner x).flatMap fun y => leafR (growR names inner d y)).Perm ((kidsX inner x).flatMap fun y => (bitsN names.length y).map (gs names)) := perm_flatMap _ fun y hy => (ih y hy).1
      refine (h3.append_right _).trans ?_
      rw [← List.map_flatMap, ← List.map_append]
      exact (hf.map (gs names)).symm
    · intro s hsm
      rw [growR, subR, List.mem_cons] at hsm
      rcases hsm with rfl | hsm
      · have hlen : ((kidsX inner x).map (growR names inner d) ++ leavesN names (leftX inner x) names.length).length = (kidsX inner x).length + (bitsN names.length (leftX inner x)).length := by
          rw [List.length_append, List.length_map]; unfold leavesN bitsN; rw [List.length_map]
        have h4 : 2 ≤ (kidsX inner x).length + (bitsN names.length (leftX inner x)).length := by
          cases hkx : kidsX inner x with
          | nil =>
            have : leftX inner x = x := by unfold leftX; rw [hkx]; rfl
            rw [this]; simp only [List.length_nil]; omega
          | cons y l =>
            cases l with
            | cons z l => simp only [List.length_cons]; omega
            | nil =>
              have hy : y ∈ kidsX inner x := by rw [hkx]; simp
              have hl : leftX inner x = minus x y := by unfold leftX; rw [hkx]; rfl
              cases hb : bitsN names.length (leftX inner x) with
              | cons b bs => simp only [List.length_cons, List.length_nil]; omega
              | nil =>
                exfalso
                have hw : withinB x y = true := (withinB_iff hx (hsub y hy).1).2 fun i hi => by
                  cases hyi : y.testBit i with
                  | true => rfl
                  | false =>
                    have hin : i ∈ bitsN names.length (leftX inner x) := mem_bitsN.2 ⟨hs i hi, by
                      rw [hl, testBit_minus (hsub y hy).1 (by have := hs i hi; omega), hi, hyi]; rfl⟩
                    rw [hb] at hin; cases hin
                have h5 := within_le hx (hsub y hy).1 hw
                have h6 := isKid_lt hx (hsub y hy).1 (hk y hy).2
                omega
        refine ⟨fun _ => h0, fun e => ?_, ?_⟩
        · have e : (kidsX inner x).map (growR names inner d) ++ leavesN names (leftX inner x) names.length = [] := e
          rw [e] at hlen; simp only [List.length_nil] at hlen; omega
        · show ((kidsX inner x).map (growR names inner d) ++ leavesN names (leftX inner x) names.length).length ≠ 1
          rw [hlen]; omega
      · rw [subRs_flat, List.flatMap_append, List.mem_append] at hsm
        rcases hsm with hsm | hsm
        · obtain ⟨q, hq, hs2⟩ := List.mem_flatMap.1 hsm
          obtain ⟨y, hy, rfl⟩ := List.mem_map.1 hq
          exact (ih y hy).2 s hs2
        · obtain ⟨q, hq, hs2⟩ := List.mem_flatMap.1 hsm
          unfold leavesN at hq
          obtain ⟨i, hi, rfl⟩ := List.mem_map.1 hq
          have hi2 : i < names.length := List.mem_range.1 (List.mem_filter.1 hi).1
          unfold leafN at hs2
          rw [subR, subRs] at hs2
          obtain rfl : s = .node (gs names i) [] := by simpa using hs2
          exact ⟨fun e => absurd rfl e, fun _ => hnm i hi2, by simp [RT.kids]⟩
end Go.Proofs.YtgjcfkadioblfaaGreat
namespace Go.Proofs.YtgjcfkadioblfaaGreat
open Go.RowKit Go.Deep
theorem less_cmp : ∀ a b : List UInt8, Op.bytesLess a b = decide (Lib.compareBytes a b < 0)
  | [], [] => rfl
  | [], _ :: _ => rfl
  | _ :: _, [] => rfl
  | a :: x, b :: y => by
    rw [Op.bytesLess, Lib.compareBytes, less_cmp x y]
    by_cases h : a < b
    · simp [h]
    · by_cases h2 : b < a
      · have : a ≠ b := by rintro rfl; exact h h2
        simp [h, h2, this]
      · have : a = b := by
          apply UInt8.toNat.inj
          rw [UInt8.lt_iff_toNat_lt] at h h2; omega
        subst this
        simp [h]
theorem lsB_cmp (a b : ByteArray) : lsB a b = decide (cmpS a b < 0) := by
  unfold lsB cmpS; rw [less_cmp, Lib.toList_data, Lib.toList_data]
theorem minS_cmp (a b : ByteArray) : minS a b = if cmpS a b ≤ 0 then a else b := by
  unfold minS
  rw [lsB_cmp]
  by_cases h : a.toList = b.toList
  · have e : a = b := ba_ext (by rw [← Lib.toList_data, ← Lib.toList_data, h])
    subst e
    simp [cmpS_self]
  · have e : cmpS a b ≠ 0 := fun q => h (by rw [cmpS_zero q])
    by_cases h1 : cmpS a b ≤ 0
    · rw [if_pos h1, if_pos]; simp; left; omega
    · rw [if_neg h1, if_neg]; simp [h]; omega
theorem cmpS_le_trans {a b c : ByteArray} (h : cmpS a b ≤ 0) (h' : cmpS b c ≤ 0) : cmpS a c ≤ 0 := by
  by_cases h1 : cmpS a b = 0
  · rw [cmpS_zero h1]; exact h'
  · by_cases h2 : cmpS b c = 0
    · rw [← cmpS_zero h2]; exact h
    · have := cmpS_trans (a := a) (b := b) (c := c) (by omega) (by omega); omega
theorem minS_assoc_l {s a b : ByteArray} (h : cmpS a b ≤ 0) : minS (minS s a) b = minS s a := by
  rw [minS_cmp s a]
  split
  · rename_i h1; rw [minS_cmp, if_pos (cmpS_le_trans h1 h)]
  · rw [minS_cmp, if_pos h]
theorem minS_assoc_r {s a b : ByteArray} (h : ¬ cmpS a b ≤ 0) : minS (minS s a) b = minS s b := by
  have hb := cmpS_anti a b
  rw [minS_cmp s a]
  split
  · rfl
  · rename_i h1
    rw [minS_cmp a b, if_neg h, minS_cmp s b, if_neg]
    intro q
    exact h1 (cmpS_le_trans q (by omega))
def hdMin (s : ByteArray) : List RT → ByteArray
  | [] => s
  | b :: _ => minS s (firstR b)
theorem hdMin_ins (s : ByteArray) (a : RT) : ∀ l, hdMin s (insR a l) = hdMin (minS s (firstR a)) l
  | [] => rfl
  | b :: l => by
    rw [insR]
    split
    · rename_i h; show minS s _ = minS (minS s _) _; rw [minS_assoc_l h]
    · rename_i h; show minS s _ = minS (minS s _) _; rw [minS_assoc_r h]
mutual
theorem lstR_first : ∀ r : RT, lstR r = firstR (sortR r)
  | .node nm [] => by rw [lstR, sortR, sortRs, firstR]
  | .node nm (k :: ks) => by
    rw [lstR, lstRs_first ks, lstR_first k, sortR, sortRs]
    cases h : sortRs ks with
    | nil => rfl
    | cons b l =>
      rw [insR]
      show minS _ _ = _
      rw [minS_cmp]
      split
      · rw [firstR]
      · rw [firstR]
theorem lstRs_first : ∀ (rs : List RT) (s : ByteArray), lstRs s rs = hdMin s (sortRs rs)
  | [], s => by rw [lstRs, sortRs]; rfl
  | r :: rs, s => by rw [lstRs, lstRs_first rs, lstR_first r, sortRs, hdMin_ins]
end
theorem insO_ins {s : ByteArray} {o : RT} (hs : s = firstR o) : ∀ {l : List RT}, (∀ b ∈ l, lstR b = firstR b) → insO s o l = insR o l
  | [], _ => rfl
  | b :: l, h => by
    have hb := h b (by simp)
    have ha := cmpS_anti (firstR b) (firstR o)
    have ih := insO_ins hs (l := l) fun q hq => h q (by simp [hq])
    unfold insO at ih ⊢
    rw [posK, insR, hb, lsB_cmp, hs]
    by_cases e : cmpS (firstR o) (firstR b) ≤ 0
    · rw [if_pos e, if_neg (by simp; omega)]; rfl
    · rw [if_neg e, if_pos (by simp; omega), List.take_succ_cons, List.drop_succ_cons, List.cons_append, ← hs, ih]
theorem insR_comm {a b : RT} (h : firstR a ≠ firstR b) : ∀ l, insR a (insR b l) = insR b (insR a l)
  | [] => by
    have h1 := cmpS_anti (firstR a) (firstR b)
    have h2 : cmpS (firstR a) (firstR b) ≠ 0 := fun q => h (cmpS_zero q)
    simp only [insR]
    by_cases e : cmpS (firstR a) (firstR b) ≤ 0
    · rw [if_pos e, if_neg (by omega)]
    · rw [if_neg e, if_pos (by omega)]
  | c :: l => by
    have h1 := cmpS_anti (firstR a) (firstR b)
    have h2 : cmpS (firstR a) (firstR b) ≠ 0 := fun q => h (cmpS_zero q)
    by_cases ea : cmpS (firstR a) (firstR c) ≤ 0
    · by_cases eb : cmpS (firstR b) (firstR c) ≤ 0
      · by_cases e : cmpS (firstR a) (firstR b) ≤ 0
        · have e' : ¬ cmpS (firstR b) (firstR a) ≤ 0 := by omega
          simp only [insR, ea, eb, e, e', if_true, if_false]
        · have e' : cmpS (firstR b) (firstR a) ≤ 0 := by omega
          simp only [insR, ea, eb, e, e', if_true, if_false]
      · have e' : ¬ cmpS (firstR b) (firstR a) ≤ 0 := fun q => eb (cmpS_le_trans q ea)
        simp only [insR, ea, eb, e', if_true, if_false]
    · by_cases eb : cmpS (firstR b) (firstR c) ≤ 0
      · have e' : ¬ cmpS (firstR a) (firstR b) ≤ 0 := fun q => ea (cmpS_le_trans q eb)
        simp only [insR, ea, eb, e', if_true, if_false]
      · simp only [insR, ea, eb, if_false]
        rw [insR_comm h l]
theorem mem_insR {a x : RT} : ∀ {l : List RT}, x ∈ insR a l ↔ x = a ∨ x ∈ l
  | [] => by simp [insR]
  | b :: l => by
    rw [insR]
    split
    · simp
    · rw [List.mem_cons, mem_insR (l := l), List.mem_cons]
      constructor
      · rintro (h | h | h) <;> simp [h]
      · rintro (h | h | h) <;> simp [h]
/-- The children's first leaves differ, all the way down. -/
def Dst (r : RT) : Prop := ∀ s ∈ subR r, (s.kids.map fun k => firstR (sortR k)).Nodup
def foldI (acc : List RT) : List RT → List RT
  | [] => acc
  | c :: cs => insR (sortR c) (foldI acc cs)
theorem foldI_ins {a : RT} : ∀ (cs acc : List RT), (∀ c ∈ cs, firstR a ≠ firstR (sortR c)) → foldI (insR a acc) cs = insR a (foldI acc cs)
  | [], _, _ => rfl
  | c :: cs, acc, h => by
    rw [foldI, foldI, foldI_ins cs acc (fun q hq => h q (by simp [hq])), insR_comm (h c (by simp))]
theorem foldI_nil : ∀ cs : List RT, foldI [] cs = sortRs cs
  | [] => by rw [foldI, sortRs]
  | c :: cs => by rw [foldI, sortRs, foldI_nil cs]
mutual
theorem ord_sort : ∀ r : RT, Dst r → ordR r = sortR r
  | .node nm ks, h => by
    have h0 := h (.node nm ks) (by rw [subR]; simp)
    rw [ordR, sortR, ords_sort ks [] (fun s hs => h s (by rw [subR]; simp [hs])) h0 (by simp), foldI_nil]
theorem ords_sort : ∀ (cs acc : List RT), (∀ s ∈ subRs cs, (s.kids.map fun k => firstR (sortR k)).Nodup) → (cs.map fun k => firstR (sortR k)).Nodup → (∀ b ∈ acc, lstR b = firstR b) → ordRs acc cs = foldI acc cs
  | [], acc, _, _, _ => by rw [ordRs, foldI]
  | c :: cs, acc, h, hn, ha => by
    have hc := ord_sort c (fun s hs => h s (by rw [subRs]; simp [hs]))
    have hl : lstR (sortR c) = firstR (sortR c) := by rw [lstR_first, sortR_idem]
    rw [List.map_cons, List.nodup_cons] at hn
    rw [ordRs, hc, insO_ins (lstR_first c) ha, ords_sort cs _ (fun s hs => h s (by rw [subRs]; simp [hs])) hn.2 (fun b hb => by
      rcases mem_insR.1 hb with rfl | hb
      · exact hl
      · exact ha b hb), foldI, foldI_ins cs acc]
    intro q hq e
    exact hn.1 (List.mem_map.2 ⟨q, hq, e.symm⟩)
end
mutual
theorem nsR_subl : ∀ (r s : RT), s ∈ subR r → (nsR s).Sublist (nsR r)
  | .node nm ks, s, h => by
    rw [subR, List.mem_cons] at h
    rcases h with rfl | h
    · exact List.Sublist.refl _
    · rw [nsR]; exact (nsRs_subl ks s h).trans (List.sublist_cons_self _ _)
theorem nsRs_subl : ∀ (rs : List RT) (s : RT), s ∈ subRs rs → (nsR s).Sublist (nsRs rs)
  | [], s, h => by simp [subRs] at h
  | r :: rs, s, h => by
    rw [subRs, List.mem_append] at h
    rw [nsRs]
    rcases h with h | h
    · exact (nsR_subl r s h).trans (List.sublist_append_left _ _)
    · exact (nsRs_subl rs s h).trans (List.sublist_append_right _ _)
end
theorem leafR_sub {r s : RT} (h : s ∈ subR r) : (leafR s).Sublist (leafR r) := (nsR_subl r s h).filter _
theorem subR_self (r : RT) : r ∈ subR r := by cases r; rw [subR]; simp
theorem first_leaf : ∀ r : RT, (∀ s ∈ subR r, s.kids = [] → namedB s.nm.data.toList = true) → firstR r ∈ leafR r
  | .node nm [], h => by
    have h1 : namedB nm.data.toList = true := h (.node nm []) (subR_self _) rfl
    rw [leafR_leaf (named_size h1), firstR]; simp
  | .node nm (k :: ks), h => by
    have hk : ∀ s ∈ subR k, s ∈ subR (.node nm (k :: ks)) := fun s hs => by rw [subR, subRs]; simp [hs]
    rw [firstR]
    exact (leafR_sub (hk k (subR_self k))).subset (first_leaf k fun s hs => h s (hk s hs))
theorem mem_subRs {k : RT} : ∀ {ks : List RT}, k ∈ ks → ∀ s ∈ subR k, s ∈ subRs ks
  | b :: ks, h, s, hs => by
    rw [subRs, List.mem_append]
    rcases List.mem_cons.1 h with rfl | h
    · exact .inl hs
    · exact .inr (mem_subRs h s hs)
mutual
theorem subR_trans : ∀ (r : RT) {s u : RT}, s ∈ subR r → u ∈ subR s → u ∈ subR r
  | .node nm ks, s, u, h, hu => by
    rw [subR, List.mem_cons] at h
    rcases h with rfl | h
    · exact hu
    · rw [subR]; exact List.mem_cons_of_mem _ (subRs_trans ks h hu)
theorem subRs_trans : ∀ (rs : List RT) {s u : RT}, s ∈ subRs rs → u ∈ subR s → u ∈ subRs rs
  | [], s, u, h, _ => by simp [subRs] at h
  | r :: rs, s, u, h, hu => by
    rw [subRs, List.mem_append] at h ⊢
    rcases h with h | h
    · exact .inl (subR_trans r h hu)
    · exact .inr (subRs_trans rs h hu)
end
theorem good_dst {r : RT} (h : GoodR r) : Dst r := by
  intro s hs
  have hnd : (leafR s).Nodup := (leafR_sub hs).nodup h.nd
  obtain ⟨nm, ks⟩ := s
  show (ks.map _).Nodup
  by_cases hk : ks = []
  · subst hk; simp
  · rw [leafR_node (nm := nm) (ks := ks) (h.inn (.node nm ks) hs hk)] at hnd
    have hmem : ∀ k ∈ ks, firstR (sortR k) ∈ leafR k := fun k hk => (leafR_sort k).mem_iff.1 (first_leaf _ fun q hq hqk => by
      obtain ⟨x, hx, rfl⟩ := List.mem_map.1 ((subR_sort k).mem_iff.1 hq)
      rw [sortR_kids] at hqk
      rw [sortR_nm]
      exact h.lf x (subR_trans r hs (by rw [subR]; exact List.mem_cons_of_mem _ (mem_subRs hk x hx))) (sortRs_nil.1 hqk))
    clear hs hk
    induction ks with
    | nil => simp
    | cons k ks ih =>
      rw [List.flatMap_cons, List.nodup_append] at hnd
      rw [List.map_cons, List.nodup_cons]
      refine ⟨fun hm => ?_, ih hnd.2.1 fun q hq => hmem q (by simp [hq])⟩
      obtain ⟨q, hq, e⟩ := List.mem_map.1 hm
      exact hnd.2.2 _ (hmem k (by simp)) _ (List.mem_flatMap.2 ⟨q, hq, hmem q (by simp [hq])⟩) e.symm
theorem canR_canT {t : Tre} (h : treeErr t = 0) : canR t = canT t := by
  unfold canR
  rw [ord_sort _ (good_dst (good_toR h)), canT_flat h]
end Go.Proofs.YtgjcfkadioblfaaGreat
