/- The rose tree of nested sets: leaves, sizes, no node with one child. The contract of layer 31's reference's with and number. An append onto a slice without room, inside a region that draws its order; a node whose list of children is laid anew. The walk of sharederror.Consistent. slices.IndexFunc, slices.DeleteFunc at nodes. phylotree.contracted: what it does to the forest. The contract of phylotree.pruned. Two lists of rows that grow side by side. -/
import Derived.Test.YtpjijbophjdgaaaGreatQ34
import Derived.Test.YtpjijbophjdgaaaGreatQ28
import Derived.Deep.CutRange
import Derived.ArgAppend
import Derived.Test.YtpjijbophjdgaaaGreatQ32
import Derived.Test.YtpjijbophjdgaaaGreatQ7
import Derived.Test.YtpjijbophjdgaaaGreatQ11
import Derived.Lib.SliceRun
import Derived.Test.YtpjijbophjdgaaaGreatQ25
import Derived.Test.YtpjijbophjdgaaaGreatQ21
import Derived.Test.YtpjijbophjdgaaaGreatQ5
namespace Go.Proofs.YtpjijbophjdgaaaGreat
def bitsN (n x : Nat) : List Nat := (List.range n).filter fun i => x.testBit i
theorem mem_bitsN {n x i : Nat} : i ∈ bitsN n x ↔ i < n ∧ x.testBit i = true := by unfold bitsN; rw [List.mem_filter, List.mem_range]
theorem testBit_minus {a b i : Nat} (hb : U64 b) (hi : i < 32) : (minus a b).testBit i = (a.testBit i && !b.testBit i) := by
  unfold minus
  have e : 18446744073709551615 - b = 2 ^ 64 - (b + 1) := by unfold U64 at hb; omega
  have hb2 : b < 2 ^ 64 := hb
  rw [e, Nat.testBit_and, Nat.testBit_two_pow_sub_succ hb2]
  simp [show i < 64 by omega]
theorem filter_split (p q r : Nat → Bool) : ∀ l : List Nat, (∀ i ∈ l, p i = (q i || r i) ∧ ¬ (q i = true ∧ r i = true)) → (l.filter p).Perm (l.filter q ++ l.filter r)
  | [], _ => List.Perm.refl _
  | a :: l, h => by
    have ih := filter_split p q r l (fun i hi => h i (by simp [hi]))
    obtain ⟨h1, h2⟩ := h a (by simp)
    cases hq : q a
    · cases hr : r a
      · rw [hq, hr] at h1
        rw [List.filter_cons_of_neg (by rw [h1]; simp), List.filter_cons_of_neg (by rw [hq]; simp), List.filter_cons_of_neg (by rw [hr]; simp)]; exact ih
      · rw [hq, hr] at h1
        rw [List.filter_cons_of_pos (by rw [h1]; simp), List.filter_cons_of_neg (by rw [hq]; simp), List.filter_cons_of_pos hr]
        exact (ih.cons a).trans List.perm_middle.symm
    · cases hr : r a
      · rw [hq, hr] at h1
        rw [List.filter_cons_of_pos (by rw [h1]; simp), List.filter_cons_of_pos hq, List.filter_cons_of_neg (by rw [hr]; simp)]
        exact ih.cons a
      · exact absurd ⟨hq, hr⟩ h2
def Apart (y z : Nat) : Prop := ∀ i, ¬ (y.testBit i = true ∧ z.testBit i = true)
theorem bits_minus {n a b : Nat} (hn : n ≤ 32) (hb : U64 b) (hs : ∀ i, b.testBit i = true → a.testBit i = true) : (bitsN n a).Perm (bitsN n b ++ bitsN n (minus a b)) := by
  unfold bitsN
  refine filter_split _ _ _ _ fun i hi => ?_
  have hi : i < n := List.mem_range.1 hi
  rw [testBit_minus hb (by omega)]
  have := hs i
  cases h1 : a.testBit i <;> cases h2 : b.testBit i <;> simp_all
theorem bits_fold {n : Nat} (hn : n ≤ 32) : ∀ (ks : List Nat) (a : Nat), (∀ y ∈ ks, U64 y ∧ (∀ i, y.testBit i = true → i < n ∧ a.testBit i = true)) → ks.Pairwise Apart → (bitsN n a).Perm (ks.flatMap (bitsN n) ++ bitsN n (ks.foldl minus a))
  | [], _, _, _ => List.Perm.refl _
  | y :: ks, a, h, hp => by
    obtain ⟨h1, h2⟩ := List.pairwise_cons.1 hp
    have hy := h y (by simp)
    have ih := bits_fold hn ks (minus a y) (fun z hz => ⟨(h z (by simp [hz])).1, fun i hi => by
      have hz2 := (h z (by simp [hz])).2 i hi
      refine ⟨hz2.1, ?_⟩
      rw [testBit_minus hy.1 (by omega), hz2.2]
      cases hyi : y.testBit i
      · rfl
      · exact absurd ⟨hyi, hi⟩ (h1 z hz i)⟩) h2
    rw [List.flatMap_cons, List.foldl_cons, List.append_assoc]
    exact (bits_minus hn hy.1 (fun i hi => (hy.2 i hi).2)).trans (ih.append_left _)
structure Lam (inner : List Nat) (n : Nat) : Prop where
  u : ∀ y ∈ inner, U64 y
  sub : ∀ y ∈ inner, ∀ i, y.testBit i = true → i < n
  two : ∀ y ∈ inner, 2 ≤ (bitsN n y).length
  lam : ∀ y ∈ inner, ∀ z ∈ inner, withinB y z = true ∨ withinB z y = true ∨ y &&& z = 0
  nd : inner.Nodup
theorem isKid_parts {inner : List Nat} {x y : Nat} (h : isKid inner x y = true) : y ≠ x ∧ withinB y x = true ∧ ∀ z ∈ inner, midB x y z = false := by
  unfold isKid at h
  simp only [Bool.and_eq_true, decide_eq_true_eq, Bool.not_eq_true'] at h
  refine ⟨h.1.1, h.1.2, fun z hz => ?_⟩
  obtain ⟨j, hj, e⟩ := List.getElem_of_mem hz
  have := any_false h.2 hj
  have hg : gn inner j = z := by simp [gn, hj, e]
  rw [hg] at this; exact this
theorem kids_apart {inner : List Nat} {n x : Nat} (h : Lam inner n) : (kidsX inner x).Pairwise Apart := by
  unfold kidsX
  refine List.Pairwise.imp_of_mem ?_ (List.Pairwise.filter _ h.nd)
  intro y z hy hz hne i hi
  obtain ⟨hy1, hy2⟩ := List.mem_filter.1 hy
  obtain ⟨hz1, hz2⟩ := List.mem_filter.1 hz
  obtain ⟨a1, a2, a3⟩ := isKid_parts hy2
  obtain ⟨b1, b2, b3⟩ := isKid_parts hz2
  rcases h.lam y hy1 z hz1 with h1 | h1 | h1
  · have := a3 z hz1
    unfold midB at this
    simp [b1, b2, h1, Ne.symm hne] at this
  · have := b3 y hy1
    unfold midB at this
    simp [a1, a2, h1, hne] at this
  · have : (y &&& z).testBit i = true := by rw [Nat.testBit_and, hi.1, hi.2]; rfl
    rw [h1] at this; simp at this
theorem perm_flatMap {α β : Type} {f g : α → List β} : ∀ l : List α, (∀ a ∈ l, (f a).Perm (g a)) → (l.flatMap f).Perm (l.flatMap g)
  | [], _ => List.Perm.refl _
  | a :: l, h => by
    rw [List.flatMap_cons, List.flatMap_cons]
    exact (h a (by simp)).append (perm_flatMap l fun b hb => h b (by simp [hb]))
def PartOk (s : RT) : Prop := (s.kids ≠ [] → s.nm.size = 0) ∧ (s.kids = [] → namedB s.nm.data.toList = true) ∧ s.kids.length ≠ 1
def fltN (l : List ByteArray) : List ByteArray := l.filter fun s => decide (s.size ≠ 0)
theorem fltN_app (a b : List ByteArray) : fltN (a ++ b) = fltN a ++ fltN b := List.filter_append _ _
theorem leafR_node {nm : ByteArray} {ks : List RT} (h : nm.size = 0) : leafR (.node nm ks) = ks.flatMap leafR := by
  have key : ∀ ks : List RT, fltN (nsRs ks) = ks.flatMap leafR := by
    intro ks
    induction ks with
    | nil => rfl
    | cons r rs ih => rw [nsRs, fltN_app, ih, List.flatMap_cons]; rfl
  show fltN (nsR _) = _
  rw [nsR, ← key]
  unfold fltN
  rw [List.filter_cons_of_neg (by simp [h])]
theorem leafR_leaf {nm : ByteArray} (h : nm.size ≠ 0) : leafR (.node nm []) = [nm] := by
  show List.filter _ (nsR _) = _
  rw [nsR, nsRs, List.filter_cons_of_pos (by simpa using h)]; rfl
mutual
theorem size_le : ∀ r : RT, (∀ s ∈ subR r, PartOk s) → sizeR r + 1 ≤ 2 * (leafR r).length
  | .node nm [], h => by
    have h1 : namedB nm.data.toList = true := (h (.node nm []) (by rw [subR]; simp)).2.1 rfl
    rw [leafR_leaf (named_size h1)]; simp [sizeR, sizeRs]
  | .node nm (k :: ks), h => by
    have h0 := h (.node nm (k :: ks)) (by rw [subR]; simp)
    have h1 : nm.size = 0 := h0.1 (by simp [RT.kids])
    have h2 : (k :: ks).length ≠ 1 := h0.2.2
    rw [leafR_node h1]
    have h3 := sizes_le (k :: ks) (fun s hs => h s (by rw [subR]; exact List.mem_cons_of_mem _ hs))
    rw [List.length_cons] at h2 h3
    rw [sizeR]; omega
theorem sizes_le : ∀ rs : List RT, (∀ s ∈ subRs rs, PartOk s) → sizeRs rs + rs.length ≤ 2 * (rs.flatMap leafR).length
  | [], _ => by simp [sizeRs]
  | r :: rs, h => by
    have h1 := size_le r (fun s hs => h s (by rw [subRs]; exact List.mem_append_left _ hs))
    have h2 := sizes_le rs (fun s hs => h s (by rw [subRs]; exact List.mem_append_right _ hs))
    rw [sizeRs, List.flatMap_cons, List.length_append, List.length_cons]; omega
end
theorem growR_ok {names : List ByteArray} {inner : List Nat} (hn : names.length ≤ 32) (hnm : ∀ s, s < names.length → namedB (gs names s).data.toList = true) (hL : Lam inner names.length) : ∀ (d x : Nat), x < d → U64 x → (∀ i, x.testBit i = true → i < names.length) → 2 ≤ (bitsN names.length x).length →
    (leafR (growR names inner d x)).Perm ((bitsN names.length x).map (gs names)) ∧ ∀ s ∈ subR (growR names inner d x), PartOk s
  | 0, _, h, _, _, _ => by omega
  | d + 1, x, h, hx, hs, h2 => by
    have hk : ∀ y ∈ kidsX inner x, y ∈ inner ∧ isKid inner x y = true := fun y hy => List.mem_filter.1 hy
    have hsub : ∀ y ∈ kidsX inner x, U64 y ∧ (∀ i, y.testBit i = true → i < names.length ∧ x.testBit i = true) := fun y hy =>
      ⟨hL.u y (hk y hy).1, fun i hi => ⟨hL.sub y (hk y hy).1 i hi, (withinB_iff (hL.u y (hk y hy).1) hx).1 (isKid_parts (hk y hy).2).2.1 i hi⟩⟩
    have ih := fun (y : Nat) (hy : y ∈ kidsX inner x) => growR_ok hn hnm hL d y (by
      have := isKid_lt hx (hL.u y (hk y hy).1) (hk y hy).2
      omega) (hL.u y (hk y hy).1) (hL.sub y (hk y hy).1) (hL.two y (hk y hy).1)
    have hf := bits_fold hn (kidsX inner x) x hsub (kids_apart hL)
    have hlv : (leavesN names (leftX inner x) names.length).flatMap leafR = (bitsN names.length (leftX inner x)).map (gs names) := by
      unfold leavesN
      show (List.map (leafN names) (bitsN names.length (leftX inner x))).flatMap leafR = _
      rw [List.flatMap_map]
      have key : ∀ l : List Nat, (∀ i ∈ l, i < names.length) → (l.flatMap fun a => leafR (leafN names a)) = l.map (gs names) := by
        intro l
        induction l with
        | nil => intro _; rfl
        | cons a l ihl =>
          intro hl
          rw [List.flatMap_cons, ihl (fun i hi => hl i (by simp [hi])), List.map_cons]
          unfold leafN
          rw [leafR_leaf (named_size (hnm a (hl a (by simp))))]; rfl
      exact key _ (fun i hi => (mem_bitsN.1 hi).1)
    have h0 : (ByteArray.empty).size = 0 := rfl
    constructor
    · rw [growR, leafR_node h0, List.flatMap_append, hlv, List.flatMap_map]
      have h3 : ((kidsX inner x).flatMap fun y => leafR (growR names inner d y)).Perm ((kidsX inner x).flatMap fun y => (bitsN names.length y).map (gs names)) := perm_flatMap _ fun y hy => (ih y hy).1
      refine (h3.append_right _).trans ?_
      rw [← List.map_flatMap, ← List.map_append]
      exact (hf.map (gs names)).symm
    · intro s hsm
      rw [growR, subR, List.mem_cons] at hsm
      rcases hsm with rfl | hsm
      · have hlen : ((kidsX inner x).map (growR names inner d) ++ leavesN names (leftX inner x) names.length).length = (kidsX inner x).length + (bitsN names.length (leftX inner x)).length := by
          rw [List.length_append, List.length_map]; unfold leavesN bitsN; rw [List.length_map]
        have h4 : 2 ≤ (kidsX inner x).length + (bitsN names.length (leftX inner x)).length := by
          cases hkx : kidsX inner x with
          | nil =>
            have : leftX inner x = x := by unfold leftX; rw [hkx]; rfl
            rw [this]; simp only [List.length_nil]; omega
          | cons y l =>
            cases l with
            | cons z l => simp only [List.length_cons]; omega
            | nil =>
              have hy : y ∈ kidsX inner x := by rw [hkx]; simp
              have hl : leftX inner x = minus x y := by unfold leftX; rw [hkx]; rfl
              cases hb : bitsN names.length (leftX inner x) with
              | cons b bs => simp only [List.length_cons, List.length_nil]; omega
              | nil =>
                exfalso
                have hw : withinB x y = true := (withinB_iff hx (hsub y hy).1).2 fun i hi => by
                  cases hyi : y.testBit i with
                  | true => rfl
                  | false =>
                    have hin : i ∈ bitsN names.length (leftX inner x) := mem_bitsN.2 ⟨hs i hi, by
                      rw [hl, testBit_minus (hsub y hy).1 (by have := hs i hi; omega), hi, hyi]; rfl⟩
                    rw [hb] at hin; cases hin
                have h5 := within_le hx (hsub y hy).1 hw
                have h6 := isKid_lt hx (hsub y hy).1 (hk y hy).2
                omega
        refine ⟨fun _ => h0, fun e => ?_, ?_⟩
        · have e : (kidsX inner x).map (growR names inner d) ++ leavesN names (leftX inner x) names.length = [] := e
          rw [e] at hlen; simp only [List.length_nil] at hlen; omega
        · show ((kidsX inner x).map (growR names inner d) ++ leavesN names (leftX inner x) names.length).length ≠ 1
          rw [hlen]; omega
      · rw [subRs_flat, List.flatMap_append, List.mem_append] at hsm
        rcases hsm with hsm | hsm
        · obtain ⟨q, hq, hs2⟩ := List.mem_flatMap.1 hsm
          obtain ⟨y, hy, rfl⟩ := List.mem_map.1 hq
          exact (ih y hy).2 s hs2
        · obtain ⟨q, hq, hs2⟩ := List.mem_flatMap.1 hsm
          unfold leavesN at hq
          obtain ⟨i, hi, rfl⟩ := List.mem_map.1 hq
          have hi2 : i < names.length := List.mem_range.1 (List.mem_filter.1 hi).1
          unfold leafN at hs2
          rw [subR, subRs] at hs2
          obtain rfl : s = .node (gs names i) [] := by simpa using hs2
          exact ⟨fun e => absurd rfl e, fun _ => hnm i hi2, by simp [RT.kids]⟩
end Go.Proofs.YtpjijbophjdgaaaGreat
namespace Go.Proofs.YtpjijbophjdgaaaGreat
open Go.RowKit Go.Deep
section
variable {tb B0 : Nat} {w W W' : World} {P N Pv Nv : Value} {ps : List Int} {ns : List ByteArray}
end
end Go.Proofs.YtpjijbophjdgaaaGreat
namespace Go.Proofs.YtpjijbophjdgaaaGreat
open Go.RowKit Go.Deep
section
variable {P : Program} {ops : Array Oper} {o : Oper} {a : Act} {w : World} {K : Act → World → Prop} {Q : Exit → Act → World → Prop} {E : Prop}
end
end Go.Proofs.YtpjijbophjdgaaaGreat
namespace Go.Proofs.YtpjijbophjdgaaaGreat
open Go.RowKit Go.Shelf Go.Deep
end Go.Proofs.YtpjijbophjdgaaaGreat
namespace Go.Proofs.YtpjijbophjdgaaaGreat
open Go.RowKit Go.Deep
theorem grown_refl (w : World) (o : Option Nat) : w.grownBy w o := ⟨rfl, rfl, rfl, Nat.le_refl _, fun _ _ _ => rfl⟩
theorem grown_trans {w w' x : World} {o : Option Nat} (h : w.grownBy w' o) (k : w'.grownBy x o) : w.grownBy x o :=
  ⟨k.os.trans h.os, k.tape.trans h.tape, k.output.trans h.output, Nat.le_trans h.size k.size, fun b hb hn => (k.block b (Nat.lt_of_lt_of_le hb h.size) hn).trans (h.block b hb hn)⟩
theorem grown_up {w w' : World} (h : Up w w') (o : Option Nat) : w.grownBy w' o := ⟨h.os, h.tape, h.output, h.size, fun b hb _ => Below.block h b hb⟩
theorem grown_set {w : World} {g o : Nat} {z : Value} : w.grownBy (w.setCell ⟨g, o, none⟩ z) (some g) :=
  ⟨rfl, rfl, rfl, by rw [World.size_setCell]; exact Nat.le_refl _, fun b _ hn => blk_setCell_other _ _ _ _ fun e => hn (by rw [e])⟩
theorem grown_sets {g : Nat} : ∀ (vs : List Value) (o : Nat) (w : World), w.grownBy (w.setCells g o vs) (some g)
  | [], _, w => grown_refl w _
  | z :: vs, o, w => by rw [World.setCells]; exact grown_trans grown_set (grown_sets vs (o + 1) _)
theorem owns_take {base : Nat} {e : TypeId} {w : World} {g n cap : Nat} {xs : List Value} (h : Owns base e w (.slice (some ⟨g, 0, none⟩) n cap) xs) {m : Nat} (hm : m ≤ n) : Owns base e w (.slice (some ⟨g, 0, none⟩) m cap) (xs.take m) := by
  obtain ⟨h1, h2⟩ := h
  rcases h2 with ⟨e1, _⟩ | ⟨g2, cap2, cur, e1, hg, hc, hn, hcm, hcs, ht⟩
  · cases e1
  · injection e1 with a1 a2 a3
    injection a1 with a1
    injection a1 with a1
    subst a1; subst a3
    have hnx : n = xs.length := a2
    have hl : (xs.take m).length = m := by rw [List.length_take]; omega
    refine ⟨by rw [Nat.mul_one], .inr ⟨g, cap, cur, by rw [hl], hg, hc, by omega, hcm, hcs, ?_⟩⟩
    rw [hl, Nat.mul_one, ← ht, List.take_take]
    congr 1; omega
theorem owns_tail {base : Nat} {e : TypeId} {w : World} {g m cap o : Nat} {xs : List Value} {z : Value} (h : Owns base e w (.slice (some ⟨g, 0, none⟩) m cap) xs) (ho : m ≤ o) : Owns base e (w.setCell ⟨g, o, none⟩ z) (.slice (some ⟨g, 0, none⟩) m cap) xs := by
  obtain ⟨h1, h2⟩ := h
  rcases h2 with ⟨e1, _⟩ | ⟨g2, cap2, cur, e1, hg, hc, hn, hcm, hcs, ht⟩
  · cases e1
  · injection e1 with a1 a2 a3
    injection a1 with a1
    injection a1 with a1
    subst a1; subst a3
    refine ⟨h1, .inr ⟨g, cap, cur.setIfInBounds o z, by rw [a2], hg, ?_, hn, hcm, by rw [Array.size_setIfInBounds]; exact hcs, ?_⟩⟩
    · simp [World.setCell, Array.getElem?_modify, hc]
    · have hmx : m = xs.length := a2
      rw [Array.toList_setIfInBounds, List.take_set_of_le (by omega)]; exact ht
theorem owns_tails {base : Nat} {e : TypeId} {g m cap : Nat} {xs : List Value} : ∀ (vs : List Value) (o : Nat) (w : World), m ≤ o → Owns base e w (.slice (some ⟨g, 0, none⟩) m cap) xs → Owns base e (w.setCells g o vs) (.slice (some ⟨g, 0, none⟩) m cap) xs
  | [], _, _, _, h => h
  | z :: vs, o, w, ho, h => by rw [World.setCells]; exact owns_tails vs (o + 1) _ (by omega) (owns_tail h ho)
theorem owns_cell {base : Nat} {e : TypeId} {w : World} {g n cap : Nat} {xs : List Value} (h : Owns base e w (.slice (some ⟨g, 0, none⟩) n cap) xs) {j : Nat} {u : Value} (hj : xs[j]? = some u) : w.cell? ⟨g, j, none⟩ = some u ∧ w.frozen? ⟨g, j, none⟩ = false := by
  have hl := (List.getElem?_eq_some_iff.1 hj).1
  obtain ⟨g2, cap2, e1, _, _, hc, hf, _⟩ := h.set hl
  injection e1 with a1
  injection a1 with a1
  injection a1 with a1
  subst a1
  refine ⟨?_, hf⟩
  rw [hc]
  congr 1
  rw [List.getD_eq_getElem?_getD, hj]; rfl
section
variable {A : Nat → Nat} {P : Nat → Bool}
end
end Go.Proofs.YtpjijbophjdgaaaGreat
namespace Go.Proofs.YtpjijbophjdgaaaGreat
open Go.RowKit Go.Deep
section
variable {n base : Nat} {A : Nat → Nat} {kv : Nat → Value} {F : Frs} {w w' w2 : World} {rk : Nat → Nat}
end
end Go.Proofs.YtpjijbophjdgaaaGreat
namespace Go.Proofs.YtpjijbophjdgaaaGreat
open Go.RowKit Go.Deep
end Go.Proofs.YtpjijbophjdgaaaGreat
namespace Go.Proofs.YtpjijbophjdgaaaGreat
open Go.RowKit Go.Deep
section
variable {B : Nat} {W W' : World} {c s : Value} {cv sv : List Value} {C S : List (List Int)} {g cap k : Nat}
theorem getD_app {l : List Value} {u : Value} {i : Nat} (hi : i < l.length) : (l ++ [u]).getD i undef = l.getD i undef := by
  simp [List.getD_eq_getElem?_getD, List.getElem?_append_left hi]
theorem getD_end {l : List Value} {u : Value} {n : Nat} (hn : n = l.length) : (l ++ [u]).getD n undef = u := by
  subst hn; simp [List.getD_eq_getElem?_getD]
theorem gl_app {l : List (List Int)} {r : List Int} {i : Nat} (hi : i < l.length) : gl (l ++ [r]) i = gl l i := by
  simp [gl, List.getD_eq_getElem?_getD, List.getElem?_append_left hi]
theorem gl_end {l : List (List Int)} {r : List Int} : gl (l ++ [r]) l.length = r := by simp [gl, List.getD_eq_getElem?_getD]
end
end Go.Proofs.YtpjijbophjdgaaaGreat
