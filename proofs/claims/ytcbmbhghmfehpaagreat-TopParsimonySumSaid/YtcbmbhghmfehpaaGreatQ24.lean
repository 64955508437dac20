/- The contract of slices.Sort at ints: the laying. slices.Sort at ints that the call has built. The law's leaves. What the sets of Consistent hold; at Tree's tree. The sets that layer 35's reference makes a tree of, and that tree: plain. The tree that layer 35's reference makes of the sets is, sorted, the program's tree: plain. Trees whose nodes stand for nested sets of names: valid, without one-child nodes; their parts. Plain. Forests whose nodes change below one node: plain. phylotree.pruned: what it does to the forest. -/
import Derived.Shelf.SlGeneric
import Derived.Shelf.SlLaysM
import Derived.Ground.SlgmProg
import Derived.Test.YtcbmbhghmfehpaaGreatProg
import Derived.Test.YtcbmbhghmfehpaaGreatQ9
import Derived.Test.YtcbmbhghmfehpaaGreatQ1
import Derived.Shelf.SortM.Plain
import Derived.Shelf.SortM.SortNone
import Derived.Sort.OwnSortedInts
import Derived.Test.YtcbmbhghmfehpaaGreatQ22
import Derived.Test.YtcbmbhghmfehpaaGreatQ23
import Derived.Test.YtcbmbhghmfehpaaGreatQ21
namespace Go.Proofs
open Go.Shelf
def Tryz.sortZ_ren : Go.Shelf.Ren := ⟨fun | 5 => 151 | 8 => 94 | 7 => 193 | 19 => 165 | 20 => 166 | 10 => 223 | 11 => 224 | 12 => 225 | 13 => 226 | 14 => 227 | 15 => 228 | 16 => 229 | 17 => 230 | 18 => 231 | 30 => 247 | 31 => 199 | 32 => 200 | 33 => 248 | 34 => 249 | 35 => 156 | 40 => 261 | n => n, fun | 23 => 26 | 25 => 3 | 3 => 3 | 32 => 118 | 22 => 26 | 0 => 0 | 44 => 180 | 46 => 96 | 4 => 4 | 36 => 173 | 35 => 172 | 41 => 177 | 5 => 5 | 9 => 9 | 53 => 212 | 57 => 216 | 63 => 248 | 64 => 126 | n => n, fun | n => n⟩
theorem Tryz.sortZ : Go.Proofs.SlLaysM.n5 Tryz.prog Tryz.sortZ_ren := {
  mixed := by kernel_rfl
  f5 := ⟨Tryz.f151.name, by decide, Tryz.func151.trans (congrArg some (by kernel_rfl))⟩
  f7 := ⟨Tryz.f193.name, by decide, Tryz.func193.trans (congrArg some (by kernel_rfl))⟩
  f8 := Tryz.func94.trans (congrArg some (by kernel_rfl))
  f10 := ⟨Tryz.f223.name, by decide, Tryz.func223.trans (congrArg some (by kernel_rfl))⟩
  f11 := ⟨Tryz.f224.name, by decide, Tryz.func224.trans (congrArg some (by kernel_rfl))⟩
  f12 := ⟨Tryz.f225.name, by decide, Tryz.func225.trans (congrArg some (by kernel_rfl))⟩
  f13 := ⟨Tryz.f226.name, by decide, Tryz.func226.trans (congrArg some (by kernel_rfl))⟩
  f14 := ⟨Tryz.f227.name, by decide, Tryz.func227.trans (congrArg some (by kernel_rfl))⟩
  f15 := ⟨Tryz.f228.name, by decide, Tryz.func228.trans (congrArg some (by kernel_rfl))⟩
  f16 := ⟨Tryz.f229.name, by decide, Tryz.func229.trans (congrArg some (by kernel_rfl))⟩
  f17 := ⟨Tryz.f230.name, by decide, Tryz.func230.trans (congrArg some (by kernel_rfl))⟩
  f18 := ⟨Tryz.f231.name, by decide, Tryz.func231.trans (congrArg some (by kernel_rfl))⟩
  f19 := Tryz.func165.trans (congrArg some (by kernel_rfl))
  f20 := Tryz.func166.trans (congrArg some (by kernel_rfl))
  f30 := ⟨Tryz.f247.name, by decide, Tryz.func247.trans (congrArg some (by kernel_rfl))⟩
  f31 := Tryz.func199.trans (congrArg some (by kernel_rfl))
  f32 := Tryz.func200.trans (congrArg some (by kernel_rfl))
  f33 := ⟨Tryz.f248.name, by decide, Tryz.func248.trans (congrArg some (by kernel_rfl))⟩
  f34 := ⟨Tryz.f249.name, by decide, Tryz.func249.trans (congrArg some (by kernel_rfl))⟩
  f35 := ⟨Tryz.f156.name, by decide, Tryz.func156.trans (congrArg some (by kernel_rfl))⟩
  f40 := ⟨Tryz.f261.name, by decide, Tryz.func261.trans (congrArg some (by kernel_rfl))⟩
  t0 := Tryz.underlying0
  a0 := Tryz.isAgg0
  z0 := Tryz.sizeOf0
  v0 := Tryz.zeroValue0
  t3 := Tryz.underlying3
  a3 := Tryz.isAgg3
  z3 := Tryz.sizeOf3
  v3 := Tryz.zeroValue3
  t4 := Tryz.underlying4
  a4 := Tryz.isAgg4
  z4 := Tryz.sizeOf4
  v4 := Tryz.zeroValue4
  t5 := Tryz.underlying5
  a5 := Tryz.isAgg5
  z5 := Tryz.sizeOf5
  v5 := Tryz.zeroValue5
  t9 := Tryz.underlying9
  a9 := Tryz.isAgg9
  z9 := Tryz.sizeOf9
  v9 := Tryz.zeroValue9
  t22 := Tryz.underlying26
  a22 := Tryz.isAgg26
  z22 := Tryz.sizeOf26
  v22 := Tryz.zeroValue26
  t23 := Tryz.underlying26
  a23 := Tryz.isAgg26
  z23 := Tryz.sizeOf26
  v23 := Tryz.zeroValue26
  t25 := Tryz.underlying3
  a25 := Tryz.isAgg3
  z25 := Tryz.sizeOf3
  v25 := Tryz.zeroValue3
  t32 := Tryz.underlying118
  a32 := Tryz.isAgg118
  z32 := Tryz.sizeOf118
  v32 := Tryz.zeroValue118
  t35 := Tryz.underlying172
  a35 := Tryz.isAgg172
  z35 := Tryz.sizeOf172
  v35 := Tryz.zeroValue172
  t36 := Tryz.underlying173
  a36 := Tryz.isAgg173
  z36 := Tryz.sizeOf173
  v36 := Tryz.zeroValue173
  t41 := Tryz.underlying177
  a41 := Tryz.isAgg177
  z41 := Tryz.sizeOf177
  v41 := Tryz.zeroValue177
  t44 := Tryz.underlying180
  a44 := Tryz.isAgg180
  z44 := Tryz.sizeOf180
  v44 := Tryz.zeroValue180
  t46 := Tryz.underlying96
  a46 := Tryz.isAgg96
  z46 := Tryz.sizeOf96
  v46 := Tryz.zeroValue96
  t53 := Tryz.underlying212
  a53 := Tryz.isAgg212
  z53 := Tryz.sizeOf212
  v53 := Tryz.zeroValue212
  t57 := Tryz.underlying216
  a57 := Tryz.isAgg216
  z57 := Tryz.sizeOf216
  v57 := Tryz.zeroValue216
  t63 := Tryz.underlying248
  a63 := Tryz.isAgg248
  z63 := Tryz.sizeOf248
  v63 := Tryz.zeroValue248
  t64 := Tryz.underlying126
  a64 := Tryz.isAgg126
  z64 := Tryz.sizeOf126
  v64 := Tryz.zeroValue126 }
end Go.Proofs
namespace Go.Proofs.YtcbmbhghmfehpaaGreat
open Go.RowKit Go.Shelf Go.Deep Go.Sort
def sortL (xs : List Int) : List Int := xs.mergeSort fun x y => decide (x ≤ y)
theorem sortL_len (xs : List Int) : (sortL xs).length = xs.length := List.length_mergeSort _
end Go.Proofs.YtcbmbhghmfehpaaGreat
namespace Go.Proofs.YtcbmbhghmfehpaaGreat
open Go.RowKit Go.Deep
end Go.Proofs.YtcbmbhghmfehpaaGreat
namespace Go.Proofs.YtcbmbhghmfehpaaGreat
section
variable {names : List ByteArray} {l : List Grp}
theorem lvs_count (ns : List ByteArray) : (leavesL ns).length = (fltN ns).length := by
  unfold leavesL
  rw [List.length_map]
  have h : ∀ k, k ≤ ns.length → ((List.range k).filter fun i => (gs ns i).size ≠ 0).length = (fltN (ns.take k)).length := by
    intro k
    induction k with
    | zero => intro _; rfl
    | succ k ih =>
      intro hk
      have hg : gs ns k = ns[k] := by simp [gs, show k < ns.length by omega]
      rw [List.range_succ, List.filter_append, List.length_append, ih (by omega), List.take_succ_eq_append_getElem (show k < ns.length by omega), fltN_app, List.length_append, ← hg]
      congr 1
      unfold fltN
      by_cases e : (gs ns k).size ≠ 0
      · rw [List.filter_cons_of_pos (by simpa using e), List.filter_cons_of_pos (by simpa using e)]; rfl
      · rw [List.filter_cons_of_neg (by simpa using e), List.filter_cons_of_neg (by simpa using e)]; rfl
  have := h ns.length (Nat.le_refl _)
  rw [List.take_length] at this
  exact this
end
end Go.Proofs.YtcbmbhghmfehpaaGreat
namespace Go.Proofs.YtcbmbhghmfehpaaGreat
def allI (n : Nat) : List Int := (List.range n).map fun (i : Nat) => (i : Int)
theorem mem_allI {n : Nat} {x : Int} : x ∈ allI n ↔ 0 ≤ x ∧ x < n := by
  unfold allI
  rw [List.mem_map]
  constructor
  · rintro ⟨i, hi, rfl⟩
    have := List.mem_range.1 hi; omega
  · rintro ⟨h0, h1⟩
    exact ⟨x.toNat, List.mem_range.2 (by omega), by omega⟩
theorem allI_len (n : Nat) : (allI n).length = n := by unfold allI; rw [List.length_map, List.length_range]
def nmI (names : List ByteArray) (x : List Int) : ByteArray := if x.length = 1 then gs names (gi x 0).toNat else ByteArray.empty
theorem perm_subI : ∀ {p q : List Int}, p.Nodup → (∀ x ∈ p, x ∈ q) → q.length ≤ p.length → p.Perm q
  | [], q, _, _, h => by
    have : q = [] := List.eq_nil_of_length_eq_zero (by simpa using h)
    rw [this]
  | x :: p, q, hn, hs, hl => by
    rw [List.nodup_cons] at hn
    have hx := hs x (by simp)
    obtain ⟨a, b, rfl⟩ := List.append_of_mem hx
    have h1 : p.Perm (a ++ b) := perm_subI hn.2 (fun y hy => by
      have h2 := hs y (by simp [hy])
      rw [List.mem_append, List.mem_cons] at h2
      rw [List.mem_append]
      rcases h2 with h2 | h2 | h2
      · exact .inl h2
      · exact absurd (by rw [← h2]; exact hy) hn.1
      · exact .inr h2) (by
      rw [List.length_append, List.length_cons, List.length_cons] at hl
      rw [List.length_append]; omega)
    exact (h1.cons x).trans List.perm_middle.symm
section
variable {n : Nat} {S : List (List Int)}
end
end Go.Proofs.YtcbmbhghmfehpaaGreat
namespace Go.Proofs.YtcbmbhghmfehpaaGreat
section
variable {names : List ByteArray} {l : List Grp} {S : List (List Int)}
def Lv (names : List ByteArray) (s : RT) (x : List Int) : Prop := ∀ y, y ∈ leafR s ↔ ∃ b : Nat, (b : Int) ∈ x ∧ y = gs names b
end
end Go.Proofs.YtcbmbhghmfehpaaGreat
namespace Go.Proofs.YtcbmbhghmfehpaaGreat
structure NodeSets (names : List ByteArray) (t : Tre) (S : Nat → List Int) : Prop where
  nm : ∀ k, k < names.length → namedB (gs names k).data.toList = true
  nd : ∀ j k, j < k → k < names.length → gs names k ≠ gs names j
  n0 : 0 < t.ps.length
  n64 : t.ps.length ≤ 64
  len : t.ns.length = t.ps.length
  root : gi t.ps 0 = -1
  top : ∀ b : Nat, b < names.length → (b : Int) ∈ S 0
  bd : ∀ i, i < t.ps.length → (∀ x ∈ S i, 0 ≤ x ∧ x < (names.length : Int)) ∧ S i ≠ []
  par : ∀ i, 0 < i → i < t.ps.length → ∃ p, p < i ∧ gi t.ps i = (p : Int) ∧ (∀ x ∈ S i, x ∈ S p) ∧ ∀ j, j < t.ps.length → j ≠ i → (∀ x ∈ S i, x ∈ S j) → ∀ x ∈ S p, x ∈ S j
  inj : ∀ i j, i < t.ps.length → j < t.ps.length → (∀ x ∈ S i, x ∈ S j) → (∀ x ∈ S j, x ∈ S i) → i = j
  sing : ∀ b : Nat, b < names.length → ∃ i, i < t.ps.length ∧ S i = [(b : Int)]
  nms : ∀ i, i < t.ps.length → gs t.ns i = nmI names (S i)
  asc : ∀ i, i < t.ps.length → (S i).Nodup
section
variable {names : List ByteArray} {t : Tre} {S : Nat → List Int}
theorem NodeSets.kid_sub (h : NodeSets names t S) {i c : Nat} (hc : c < t.ps.length) (h0 : 0 < c) (e : gi t.ps c = (i : Int)) : (∀ x ∈ S c, x ∈ S i) ∧ i < c := by
  obtain ⟨p, p1, p2, p3, _⟩ := h.par c h0 hc
  rw [e] at p2
  have : i = p := by omega
  subst this; exact ⟨p3, p1⟩
theorem NodeSets.meet (h : NodeSets names t S) {i : Nat} (hi : i < t.ps.length) : ∃ x, x ∈ S i := List.exists_mem_of_ne_nil _ (h.bd i hi).2
theorem NodeSets.kid (h : NodeSets names t S) {i : Nat} (hi : i < t.ps.length) : ∀ (d p : Nat), p ≤ d → p < t.ps.length → p ≠ i → (∀ x ∈ S p, x ∈ S i) → ∃ c, c < t.ps.length ∧ i < c ∧ gi t.ps c = (i : Int) ∧ ∀ x ∈ S p, x ∈ S c := by
  have z : ∀ p, p < t.ps.length → p ≠ i → (∀ x ∈ S p, x ∈ S i) → 0 < p := fun p hp hne hs => by
    rcases Nat.eq_zero_or_pos p with e | e
    · subst e
      refine absurd (h.inj 0 i hp hi hs fun x hx => ?_) hne
      obtain ⟨x0, xn⟩ := (h.bd i hi).1 x hx
      have := h.top x.toNat (by omega)
      rwa [Int.toNat_of_nonneg x0] at this
    · exact e
  intro d
  induction d with
  | zero => intro p hd hp hne hs; have := z p hp hne hs; omega
  | succ d ih =>
    intro p hd hp hne hs
    obtain ⟨q, q1, q2, q3, q4⟩ := h.par p (z p hp hne hs) hp
    by_cases c : q = i
    · subst c; exact ⟨p, hp, q1, q2, fun x hx => hx⟩
    · obtain ⟨k, k1, k2, k3, k4⟩ := ih q (by omega) (by omega) c (q4 i hi (fun e => hne e.symm) hs)
      exact ⟨k, k1, k2, k3, fun x hx => k4 x (q3 x hx)⟩
theorem NodeSets.kid_of (h : NodeSets names t S) {i : Nat} (hi : i < t.ps.length) (h2 : (S i).length ≠ 1) {x : Int} (hx : x ∈ S i) : ∃ c, c < t.ps.length ∧ i < c ∧ gi t.ps c = (i : Int) ∧ x ∈ S c := by
  obtain ⟨x0, xn⟩ := (h.bd i hi).1 x hx
  obtain ⟨k, rfl⟩ : ∃ k : Nat, x = k := ⟨x.toNat, by omega⟩
  obtain ⟨p, hp, e⟩ := h.sing k (by omega)
  have hne : p ≠ i := fun q => by subst q; rw [e] at h2; exact h2 rfl
  obtain ⟨c, c1, c2, c3, c4⟩ := h.kid hi p p (Nat.le_refl _) hp hne (fun y hy => by rw [e, List.mem_singleton] at hy; subst hy; exact hx)
  exact ⟨c, c1, c2, c3, c4 _ (by rw [e]; simp)⟩
theorem NodeSets.inn (h : NodeSets names t S) {i : Nat} (hi : i < t.ps.length) : isIn t.ps i = true ↔ (S i).length ≠ 1 := by
  unfold isIn inK
  rw [List.any_eq_true]
  constructor
  · rintro ⟨c, hc, e⟩ h1
    have hc := List.mem_range.1 hc
    rw [Bool.and_eq_true, decide_eq_true_eq, beq_iff_eq] at e
    obtain ⟨s1, s2⟩ := h.kid_sub hc e.1 e.2
    obtain ⟨b, hb⟩ := List.length_eq_one_iff.1 h1
    obtain ⟨z, hz⟩ := h.meet hc
    have hzb := s1 z hz
    rw [hb, List.mem_singleton] at hzb
    have := h.inj i c hi hc (fun x hx => by rw [hb, List.mem_singleton] at hx; rw [hx, ← hzb]; exact hz) s1
    omega
  · intro h1
    obtain ⟨x, hx⟩ := h.meet hi
    obtain ⟨c, c1, c2, c3, _⟩ := h.kid_of hi h1 hx
    exact ⟨c, List.mem_range.2 c1, by rw [c3]; simp; omega⟩
theorem NodeSets.one (h : NodeSets names t S) {i : Nat} (hi : i < t.ps.length) (h1 : (S i).length = 1) : ∃ b : Nat, b < names.length ∧ S i = [(b : Int)] ∧ gs t.ns i = gs names b := by
  obtain ⟨x, hx⟩ := List.length_eq_one_iff.1 h1
  obtain ⟨x0, xn⟩ := (h.bd i hi).1 x (by rw [hx]; simp)
  refine ⟨x.toNat, by omega, by rw [hx]; congr 1; omega, ?_⟩
  rw [h.nms i hi, nmI, if_pos h1, hx]; rfl
theorem NodeSets.big (h : NodeSets names t S) {i : Nat} (hi : i < t.ps.length) (h1 : (S i).length ≠ 1) : (gs t.ns i).size = 0 := by
  rw [h.nms i hi, nmI, if_neg h1]; rfl
theorem NodeSets.pok (h : NodeSets names t S) : pOkB t.ps = true := by
  unfold pOkB
  rw [List.all_eq_true]
  intro i hi
  have hi := List.mem_range.1 hi
  unfold okp
  by_cases c : i = 0
  · subst c; rw [h.root]; rfl
  · rw [if_neg c]
    obtain ⟨p, h1, h2, _⟩ := h.par i (by omega) hi
    rw [h2]; simp; omega
theorem NodeSets.tree (h : NodeSets names t S) : treeErr t = 0 := by
  have hp := h.n0
  have h64 := h.n64
  unfold treeErr
  rw [if_neg (by omega), if_neg (by omega), if_neg (by rw [h.len]; simp), if_pos h.pok]
  refine firstNZ_zero fun i hi => ?_
  unfold nErr
  by_cases h1 : (S i).length = 1
  · rw [if_neg (fun q => (h.inn hi).1 q h1)]
    obtain ⟨b, hb, e, en⟩ := h.one hi h1
    have hn := h.nm b hb
    rw [en, if_pos hn, if_neg]
    intro q
    unfold seenK at q
    obtain ⟨j, hj, e2⟩ := List.any_eq_true.1 q
    have hj := List.mem_range.1 hj
    have e2 := of_decide_eq_true e2
    rw [en] at e2
    by_cases j1 : (S j).length = 1
    · obtain ⟨b', hb', e', en'⟩ := h.one (show j < t.ps.length by omega) j1
      rw [en'] at e2
      have : b' = b := by
        rcases Nat.lt_trichotomy b' b with c | c | c
        · exact absurd e2.symm (h.nd b' b c hb)
        · exact c
        · exact absurd e2 (h.nd b b' c hb')
      subst this
      have := h.inj j i (by omega) hi (by rw [e', e]; exact fun x hx => hx) (by rw [e', e]; exact fun x hx => hx)
      omega
    · have := h.big (show j < t.ps.length by omega) j1
      rw [e2] at this
      exact named_size hn this
  · rw [if_pos ((h.inn hi).2 h1), if_pos (h.big hi h1)]
theorem NodeSets.nokid (h : NodeSets names t S) {i : Nat} (hi : i < t.ps.length) (h1 : (S i).length = 1) : kidsL t.ps i = [] := by
  rw [List.eq_nil_iff_forall_not_mem]
  intro c hc
  obtain ⟨c1, c2, c3⟩ := mem_kidsL.1 hc
  refine (h.inn hi).1 ?_ h1
  unfold isIn inK
  rw [List.any_eq_true]
  exact ⟨c, List.mem_range.2 c1, by rw [c3]; simp; omega⟩
theorem NodeSets.leaves (h : NodeSets names t S) : ∀ d i, t.ps.length - i ≤ d → i < t.ps.length → Lv names (toRF (frT t) (rkT t) i) (S i)
  | 0, i, hd, hi => by omega
  | d + 1, i, hd, hi => by
    have ht := h.tree
    intro y
    rw [toRF_eq (frT_arb ht).wf hi, frT_kids, show (frT t).nm i = gs t.ns i from rfl]
    by_cases h1 : (S i).length = 1
    · obtain ⟨b, hb, e, en⟩ := h.one hi h1
      rw [h.nokid hi h1, List.map_nil, en, leafR_leaf (named_size (h.nm b hb)), e]
      constructor
      · intro hy; exact ⟨b, by simp, by simpa using hy⟩
      · rintro ⟨b', hb', rfl⟩
        have : b' = b := by have := List.mem_singleton.1 hb'; omega
        subst this; simp
    · rw [leafR_node (h.big hi h1), List.mem_flatMap]
      constructor
      · rintro ⟨q, hq, hy⟩
        obtain ⟨c, hc, rfl⟩ := List.mem_map.1 hq
        obtain ⟨c1, c2, c3⟩ := mem_kidsL.1 hc
        obtain ⟨b, hb, e⟩ := (NodeSets.leaves h d c (by omega) c1 y).1 hy
        exact ⟨b, (h.kid_sub c1 (by omega) c3).1 _ hb, e⟩
      · rintro ⟨b, hb, rfl⟩
        obtain ⟨c, c1, c2, c3, c4⟩ := h.kid_of hi h1 hb
        exact ⟨_, List.mem_map.2 ⟨c, mem_kidsL.2 ⟨c1, c2, c3⟩, rfl⟩, (NodeSets.leaves h d c (by omega) c1 _).2 ⟨b, c4, rfl⟩⟩
theorem NodeSets.part (h : NodeSets names t S) {i : Nat} (hi : i < t.ps.length) : PartOk (toRF (frT t) (rkT t) i) := by
  have ht := h.tree
  unfold PartOk
  rw [toRF_nm (frT_arb ht).wf hi, toRF_kids (frT_arb ht).wf hi, frT_kids, show (frT t).nm i = gs t.ns i from rfl]
  by_cases h1 : (S i).length = 1
  · obtain ⟨b, hb, e, en⟩ := h.one hi h1
    rw [h.nokid hi h1, en]
    exact ⟨fun q => absurd rfl q, fun _ => h.nm b hb, by simp⟩
  · have hof : ∀ x ∈ S i, ∃ c ∈ kidsL t.ps i, x ∈ S c := fun x hx => by
      obtain ⟨c, c1, c2, c3, c4⟩ := h.kid_of hi h1 hx
      exact ⟨c, mem_kidsL.2 ⟨c1, c2, c3⟩, c4⟩
    refine ⟨fun _ => h.big hi h1, fun q => ?_, fun q => ?_⟩
    · have q : kidsL t.ps i = [] := by simpa using q
      obtain ⟨x, hx⟩ := h.meet hi
      obtain ⟨c, hc, _⟩ := hof x hx
      rw [q] at hc; cases hc
    · rw [List.length_map] at q
      obtain ⟨c, hc⟩ := List.length_eq_one_iff.1 q
      obtain ⟨c1, c2, c3⟩ := mem_kidsL.1 (show c ∈ kidsL t.ps i by rw [hc]; simp)
      have := h.inj i c hi c1 (fun x hx => by
        obtain ⟨c', hc', hx'⟩ := hof x hx
        rw [hc, List.mem_singleton] at hc'
        subst hc'; exact hx') (h.kid_sub c1 (by omega) c3).1
      omega
theorem NodeSets.oku (h : NodeSets names t S) : OkU (toR t) := by
  have ht := h.tree
  refine ⟨(good_toR ht).nd, fun s hs => ?_⟩
  rw [subR_toR ht] at hs
  obtain ⟨j, hj, rfl⟩ := List.mem_map.1 hs
  exact h.part (mem_nodes_lt ht hj)
theorem NodeSets.node (h : NodeSets names t S) : ∀ (d i : Nat), i ≤ d → i < t.ps.length → toRF (frT t) (rkT t) i ∈ subR (toR t)
  | d, i, hd, hi => by
    have ht := h.tree
    by_cases h0 : i = 0
    · subst h0; exact subR_self _
    · obtain ⟨p, p1, p2, _⟩ := h.par i (by omega) hi
      cases d with
      | zero => omega
      | succ d =>
        have ih := NodeSets.node h d p (by omega) (by omega)
        refine subR_trans _ ih ?_
        rw [toRF_eq (frT_arb ht).wf (show p < t.ps.length by omega), frT_kids]
        exact mem_kid (List.mem_map.2 ⟨i, mem_kidsL.2 ⟨hi, p1, p2⟩, rfl⟩)
theorem NodeSets.parts (h : NodeSets names t S) : (∀ s ∈ subR (toR t), ∃ i, i < t.ps.length ∧ Lv names s (S i)) ∧ ∀ i, i < t.ps.length → ∃ s ∈ subR (toR t), Lv names s (S i) := by
  have ht := h.tree
  constructor
  · intro s hs
    rw [subR_toR ht] at hs
    obtain ⟨j, hj, rfl⟩ := List.mem_map.1 hs
    have := mem_nodes_lt ht hj
    exact ⟨j, this, h.leaves _ j (Nat.le_refl _) this⟩
  · exact fun i hi => ⟨_, h.node i i (Nat.le_refl _) hi, h.leaves _ i (Nat.le_refl _) hi⟩
end
end Go.Proofs.YtcbmbhghmfehpaaGreat
namespace Go.Proofs.YtcbmbhghmfehpaaGreat
section
variable {F G : Frs} {n : Nat} {rk : Nat → Nat}
end
end Go.Proofs.YtcbmbhghmfehpaaGreat
namespace Go.Proofs.YtcbmbhghmfehpaaGreat
open Go.RowKit Go.Deep
section
variable {P : Program} {ops : Array Oper} {rest : List Oper} {o : Oper} {a : Act} {Q : Exit → Act → World → Prop}
theorem wpList_appG (W : World) (hgd : o.guard = none) (s x : Operand) (t : TypeId) (ho : o.op = .call { callee := .builtin .append, args := #[s, x], argTypes := #[t, t] })
    (base : Nat) (e : TypeId) (z : Value) (bytes : Nat) (ht : P.underlying t = some (.slice e)) (hinfo : (P.info? e).map (fun i => (i.zero, i.size, i.bytes)) = some (some z, 1, bytes))
    (hz1 : z.cells.size = 1) (hb8 : bytes ≤ 64) {v : Value} {vs : List Value} (hown : Owns base e W v vs) (hs : a.eval s = v) (u : Value)
    (hx : a.eval x = .slice (some ⟨W.heap.size, 0, none⟩) 1 1) (h1 : u.oneCell' = true) (k : Nat) (hvn : vs.length = k) (hn : k ≤ 1000000) (hbase : base ≤ W.heap.size)
    (h : ∀ g cap w', Owns base e w' (.slice (some ⟨g, 0, none⟩) (k + 1) cap) (vs ++ [u]) → W.grownBy w' v.ownBlock → (v.ownBlock = some g ∨ W.heap.size ≤ g) → wpList P ops Q rest (a.put o.dst (.slice (some ⟨g, 0, none⟩) (k + 1) cap)) w') :
    wpList P ops Q (o :: rest) a (W.alloc (.cells #[u] e)) := by
  subst hvn
  obtain ⟨i, hi, hzz⟩ := Option.map_eq_some_iff.1 hinfo
  simp only [Prod.mk.injEq] at hzz
  obtain ⟨hz, hs1, hb⟩ := hzz
  refine wpList_append_lies _ hgd s x t ho base e i z 1 bytes ht hi hz hs1 hb hz1 (by omega) v vs.length vs hs (hown.alloc _) ⟨W.heap.size, 0, none⟩ 1 1 [u] hx rfl (cell_one_new _ _ _) (by simpa using h1) (by omega)
    (by unfold maxLen; omega) ?_ (by simp; omega) _ rfl fun g cap w' h2 h3 h4 _ => h g cap w' ?_ (grown_alloc h3) (h4.imp id fun e => by rw [e, World.size_alloc]; omega)
  · have : (vs.length + 1) * bytes ≤ (vs.length + 1) * 64 := Nat.mul_le_mul_left _ hb8
    omega
  · unfold Owns; rw [List.length_append]; exact h2
end
section
variable {n base : Nat} {A : Nat → Nat} {kv : Nat → Value} {F : Frs} {w w' w2 : World} {P : Nat → Bool} {rk : Nat → Nat}
end
end Go.Proofs.YtcbmbhghmfehpaaGreat
