/- The rose tree of nested sets: leaves, sizes, no node with one child. The reference's canonical tree is the canonical tree: its order is the sort's order. The tree of groups that are not in conflict: valid, its leaves are the names, no node has one child. Two rose trees without one-child nodes that have the same families of leaves are the same, sorted. Contracts: Support, Original, Significant of sharederror. Contracts of the references: Check of layer 30; right, check, Support, Original, Significant of layer 35. The contracts of layer 35's reference's has, common, conflict. Maps whose keys are strings. Which nodes lie below a node of a tree that is numbered depth first. What Consistent computes: plain. Which parts the rose tree of nested sets has: the sets, and the single sources. The contract of slices.Sort at strings: the laying. slices.Sort at strings that the call has built. The law's names: A, B, .. slices.Equal at strings. The plain law of SharederrorLeaves. A region that draws its order, only reads, and ends in one operation that may write: outside a round. The walk of sharederror.Consistent. The contract of slices.Sort at ints: the laying. slices.Sort at ints that the call has built. The law's leaves. What the sets of Consistent hold; at Tree's tree. -/
import Derived.Test.YtcaialhoclodjaaQ13
import Derived.Test.YtcaialhoclodjaaQ3
import Derived.Test.YtcaialhoclodjaaQ4
import Derived.Test.YtcaialhoclodjaaQ12
import Derived.Shelf.SlGeneric
import Derived.Shelf.Lays
import Derived.Shelf.Sort.Plain
import Derived.Ground.NamesProg
import Derived.Test.YtcaialhoclodjaaProg
import Derived.Test.YtcaialhoclodjaaQ1
import Derived.Sort.OwnSorted
import Derived.Shelf.Slices.In.SortNone
import Derived.Laws.IdiomStrings
import Derived.Test.YtcaialhoclodjaaQ2
import Derived.Shelf.SlLaysM
import Derived.Ground.SlgmProg
import Derived.Shelf.SortM.Plain
import Derived.Shelf.SortM.SortNone
import Derived.Sort.OwnSortedInts
namespace Go.Proofs.Ytcaialhoclodjaa
def bitsN (n x : Nat) : List Nat := (List.range n).filter fun i => x.testBit i
theorem mem_bitsN {n x i : Nat} : i ∈ bitsN n x ↔ i < n ∧ x.testBit i = true := by unfold bitsN; rw [List.mem_filter, List.mem_range]
structure Lam (inner : List Nat) (n : Nat) : Prop where
  u : ∀ y ∈ inner, U64 y
  sub : ∀ y ∈ inner, ∀ i, y.testBit i = true → i < n
  two : ∀ y ∈ inner, 2 ≤ (bitsN n y).length
  lam : ∀ y ∈ inner, ∀ z ∈ inner, withinB y z = true ∨ withinB z y = true ∨ y &&& z = 0
  nd : inner.Nodup
/-- A part as it should be: inner parts without a name, leaves named, not one child. -/
def PartOk (s : RT) : Prop := (s.kids ≠ [] → s.nm.size = 0) ∧ (s.kids = [] → namedB s.nm.data.toList = true) ∧ s.kids.length ≠ 1
def fltN (l : List ByteArray) : List ByteArray := l.filter fun s => decide (s.size ≠ 0)
theorem fltN_app (a b : List ByteArray) : fltN (a ++ b) = fltN a ++ fltN b := List.filter_append _ _
theorem leafR_node {nm : ByteArray} {ks : List RT} (h : nm.size = 0) : leafR (.node nm ks) = ks.flatMap leafR := by
  have key : ∀ ks : List RT, fltN (nsRs ks) = ks.flatMap leafR := by
    intro ks
    induction ks with
    | nil => rfl
    | cons r rs ih => rw [nsRs, fltN_app, ih, List.flatMap_cons]; rfl
  show fltN (nsR _) = _
  rw [nsR, ← key]
  unfold fltN
  rw [List.filter_cons_of_neg (by simp [h])]
theorem leafR_leaf {nm : ByteArray} (h : nm.size ≠ 0) : leafR (.node nm []) = [nm] := by
  show List.filter _ (nsR _) = _
  rw [nsR, nsRs, List.filter_cons_of_pos (by simpa using h)]; rfl
end Go.Proofs.Ytcaialhoclodjaa
namespace Go.Proofs.Ytcaialhoclodjaa
open Go.RowKit Go.Deep
theorem cmpS_le_trans {a b c : ByteArray} (h : cmpS a b ≤ 0) (h' : cmpS b c ≤ 0) : cmpS a c ≤ 0 := by
  by_cases h1 : cmpS a b = 0
  · rw [cmpS_zero h1]; exact h'
  · by_cases h2 : cmpS b c = 0
    · rw [← cmpS_zero h2]; exact h
    · have := cmpS_trans (a := a) (b := b) (c := c) (by omega) (by omega); omega
theorem insR_comm {a b : RT} (h : firstR a ≠ firstR b) : ∀ l, insR a (insR b l) = insR b (insR a l)
  | [] => by
    have h1 := cmpS_anti (firstR a) (firstR b)
    have h2 : cmpS (firstR a) (firstR b) ≠ 0 := fun q => h (cmpS_zero q)
    simp only [insR]
    by_cases e : cmpS (firstR a) (firstR b) ≤ 0
    · rw [if_pos e, if_neg (by omega)]
    · rw [if_neg e, if_pos (by omega)]
  | c :: l => by
    have h1 := cmpS_anti (firstR a) (firstR b)
    have h2 : cmpS (firstR a) (firstR b) ≠ 0 := fun q => h (cmpS_zero q)
    by_cases ea : cmpS (firstR a) (firstR c) ≤ 0
    · by_cases eb : cmpS (firstR b) (firstR c) ≤ 0
      · by_cases e : cmpS (firstR a) (firstR b) ≤ 0
        · have e' : ¬ cmpS (firstR b) (firstR a) ≤ 0 := by omega
          simp only [insR, ea, eb, e, e', if_true, if_false]
        · have e' : cmpS (firstR b) (firstR a) ≤ 0 := by omega
          simp only [insR, ea, eb, e, e', if_true, if_false]
      · have e' : ¬ cmpS (firstR b) (firstR a) ≤ 0 := fun q => eb (cmpS_le_trans q ea)
        simp only [insR, ea, eb, e', if_true, if_false]
    · by_cases eb : cmpS (firstR b) (firstR c) ≤ 0
      · have e' : ¬ cmpS (firstR a) (firstR b) ≤ 0 := fun q => ea (cmpS_le_trans q eb)
        simp only [insR, ea, eb, e', if_true, if_false]
      · simp only [insR, ea, eb, if_false]
        rw [insR_comm h l]
/-- The children's first leaves differ, all the way down. -/
def Dst (r : RT) : Prop := ∀ s ∈ subR r, (s.kids.map fun k => firstR (sortR k)).Nodup
mutual
theorem nsR_subl : ∀ (r s : RT), s ∈ subR r → (nsR s).Sublist (nsR r)
  | .node nm ks, s, h => by
    rw [subR, List.mem_cons] at h
    rcases h with rfl | h
    · exact List.Sublist.refl _
    · rw [nsR]; exact (nsRs_subl ks s h).trans (List.sublist_cons_self _ _)
theorem nsRs_subl : ∀ (rs : List RT) (s : RT), s ∈ subRs rs → (nsR s).Sublist (nsRs rs)
  | [], s, h => by simp [subRs] at h
  | r :: rs, s, h => by
    rw [subRs, List.mem_append] at h
    rw [nsRs]
    rcases h with h | h
    · exact (nsR_subl r s h).trans (List.sublist_append_left _ _)
    · exact (nsRs_subl rs s h).trans (List.sublist_append_right _ _)
end
theorem leafR_sub {r s : RT} (h : s ∈ subR r) : (leafR s).Sublist (leafR r) := (nsR_subl r s h).filter _
theorem subR_self (r : RT) : r ∈ subR r := by cases r; rw [subR]; simp
theorem first_leaf : ∀ r : RT, (∀ s ∈ subR r, s.kids = [] → namedB s.nm.data.toList = true) → firstR r ∈ leafR r
  | .node nm [], h => by
    have h1 : namedB nm.data.toList = true := h (.node nm []) (subR_self _) rfl
    rw [leafR_leaf (named_size h1), firstR]; simp
  | .node nm (k :: ks), h => by
    have hk : ∀ s ∈ subR k, s ∈ subR (.node nm (k :: ks)) := fun s hs => by rw [subR, subRs]; simp [hs]
    rw [firstR]
    exact (leafR_sub (hk k (subR_self k))).subset (first_leaf k fun s hs => h s (hk s hs))
theorem mem_subRs {k : RT} : ∀ {ks : List RT}, k ∈ ks → ∀ s ∈ subR k, s ∈ subRs ks
  | b :: ks, h, s, hs => by
    rw [subRs, List.mem_append]
    rcases List.mem_cons.1 h with rfl | h
    · exact .inl hs
    · exact .inr (mem_subRs h s hs)
mutual
theorem subR_trans : ∀ (r : RT) {s u : RT}, s ∈ subR r → u ∈ subR s → u ∈ subR r
  | .node nm ks, s, u, h, hu => by
    rw [subR, List.mem_cons] at h
    rcases h with rfl | h
    · exact hu
    · rw [subR]; exact List.mem_cons_of_mem _ (subRs_trans ks h hu)
theorem subRs_trans : ∀ (rs : List RT) {s u : RT}, s ∈ subRs rs → u ∈ subR s → u ∈ subRs rs
  | [], s, u, h, _ => by simp [subRs] at h
  | r :: rs, s, u, h, hu => by
    rw [subRs, List.mem_append] at h ⊢
    rcases h with h | h
    · exact .inl (subR_trans r h hu)
    · exact .inr (subRs_trans rs h hu)
end
theorem good_dst {r : RT} (h : GoodR r) : Dst r := by
  intro s hs
  have hnd : (leafR s).Nodup := (leafR_sub hs).nodup h.nd
  obtain ⟨nm, ks⟩ := s
  show (ks.map _).Nodup
  by_cases hk : ks = []
  · subst hk; simp
  · rw [leafR_node (nm := nm) (ks := ks) (h.inn (.node nm ks) hs hk)] at hnd
    have hmem : ∀ k ∈ ks, firstR (sortR k) ∈ leafR k := fun k hk => (leafR_sort k).mem_iff.1 (first_leaf _ fun q hq hqk => by
      obtain ⟨x, hx, rfl⟩ := List.mem_map.1 ((subR_sort k).mem_iff.1 hq)
      rw [sortR_kids] at hqk
      rw [sortR_nm]
      exact h.lf x (subR_trans r hs (by rw [subR]; exact List.mem_cons_of_mem _ (mem_subRs hk x hx))) (sortRs_nil.1 hqk))
    clear hs hk
    induction ks with
    | nil => simp
    | cons k ks ih =>
      rw [List.flatMap_cons, List.nodup_append] at hnd
      rw [List.map_cons, List.nodup_cons]
      refine ⟨fun hm => ?_, ih hnd.2.1 fun q hq => hmem q (by simp [hq])⟩
      obtain ⟨q, hq, e⟩ := List.mem_map.1 hm
      exact hnd.2.2 _ (hmem k (by simp)) _ (List.mem_flatMap.2 ⟨q, hq, hmem q (by simp [hq])⟩) e.symm
end Go.Proofs.Ytcaialhoclodjaa
namespace Go.Proofs.Ytcaialhoclodjaa
theorem innK_nodup (l : List Grp) (all : Nat) : ∀ k, (innK l all k).Nodup
  | 0 => List.nodup_nil
  | k + 1 => by
    have ih := innK_nodup l all k
    unfold innK
    split
    · rename_i hc
      rw [List.nodup_append]
      refine ⟨ih, by simp, fun a ha b hb e => ?_⟩
      obtain rfl : b = ofS (gg l k).src := by simpa using hb
      subst e; exact hc.2.2 ha
    · exact ih
/-- What groups have that Tree does not refuse. -/
structure ShOk (names : List ByteArray) (l : List Grp) : Prop where
  pos : 0 < names.length
  le : names.length ≤ 32
  nm : ∀ k, k < names.length → namedB (gs names k).data.toList = true
  nd : ∀ j k, j < k → k < names.length → gs names k ≠ gs names j
  gc : gcErr l = 0
  far : ∀ k, k < l.length → ∀ x ∈ (gg l k).src, x < names.length
  cf : ∀ i k, i < k → k < l.length → confB (ofS (gg l i).src) (ofS (gg l k).src) = false
section
variable {names : List ByteArray} {l : List Grp}
theorem ShOk.small (h : ShOk names l) {k : Nat} (hk : k < l.length) : Small (gg l k).src := (srcOk_small ((gcErr_zero h.gc).2 k hk).2.2.2).1
theorem ShOk.bits (h : ShOk names l) {k : Nat} (hk : k < l.length) {i : Nat} : (ofS (gg l k).src).testBit i = true ↔ (i : Int) ∈ (gg l k).src := testBit_ofS (h.small hk) i
theorem two_bits {n x a b : Nat} (hab : a ≠ b) (ha : a ∈ bitsN n x) (hb : b ∈ bitsN n x) : 2 ≤ (bitsN n x).length := by
  have h1 : [a, b].Nodup := by simp [hab]
  have h2 : [a, b] ⊆ bitsN n x := fun y hy => by
    rcases List.mem_cons.1 hy with e | hy
    · rw [e]; exact ha
    · have e : y = b := by simpa using hy
      rw [e]; exact hb
  have := h1.length_le_of_subset h2
  simpa using this
theorem conf_cases {a b : Nat} (h : confB a b = false) : withinB a b = true ∨ withinB b a = true ∨ a &&& b = 0 := by
  unfold confB at h
  by_cases e : a &&& b = 0
  · exact .inr (.inr e)
  · cases h1 : withinB a b
    · cases h2 : withinB b a
      · rw [h1, h2] at h; simp [e] at h
      · exact .inr (.inl rfl)
    · exact .inl rfl
theorem ShOk.lam (h : ShOk names l) : Lam (innL l (allN names.length)) names.length := by
  refine ⟨fun y hy => ?_, fun y hy i hi => ?_, fun y hy => ?_, fun y hy z hz => ?_, innK_nodup _ _ _⟩
  · obtain ⟨j, hj, rfl, _⟩ := innK_mem hy
    exact ofS_u64 (h.small hj)
  · obtain ⟨j, hj, rfl, _⟩ := innK_mem hy
    have := h.far j hj _ ((h.bits hj).1 hi); omega
  · obtain ⟨j, hj, rfl, h1, _⟩ := innK_mem hy
    obtain ⟨hs, _, hm⟩ := srcOk_small ((gcErr_zero h.gc).2 j hj).2.2.2
    obtain ⟨a, ha, _⟩ := small_mem hs (gi_mem (l := (gg l j).src) (k := 0) (by omega))
    obtain ⟨b, hb, _⟩ := small_mem hs (gi_mem (l := (gg l j).src) (k := 1) h1)
    have h2 := hm 1 (by omega) h1
    have hma : (a : Int) ∈ (gg l j).src := by rw [← ha]; exact gi_mem (by omega)
    have hmb : (b : Int) ∈ (gg l j).src := by rw [← hb]; exact gi_mem h1
    refine two_bits (a := a) (b := b) (by
      have e : (1 : Nat) - 1 = 0 := rfl
      rw [e, ha, hb] at h2; omega) (mem_bitsN.2 ⟨?_, (h.bits hj).2 hma⟩) (mem_bitsN.2 ⟨?_, (h.bits hj).2 hmb⟩)
    · have := h.far j hj _ hma; omega
    · have := h.far j hj _ hmb; omega
  · obtain ⟨j, hj, rfl, _⟩ := innK_mem hy
    obtain ⟨k, hk, rfl, _⟩ := innK_mem hz
    rcases Nat.lt_trichotomy j k with e | e | e
    · exact conf_cases (h.cf j k e hk)
    · subst e
      exact .inl ((withinB_iff (ofS_u64 (h.small hj)) (ofS_u64 (h.small hj))).2 fun i hi => hi)
    · rcases conf_cases (h.cf k j e hj) with q | q | q
      · exact .inr (.inl q)
      · exact .inl q
      · exact .inr (.inr (by rw [Nat.and_comm]; exact q))
end
end Go.Proofs.Ytcaialhoclodjaa
namespace Go.Proofs.Ytcaialhoclodjaa
structure OkU (r : RT) : Prop where
  nd : (leafR r).Nodup
  pt : ∀ s ∈ subR r, PartOk s
theorem OkU.good {r : RT} (h : OkU r) : GoodR r := ⟨fun s hs hk => (h.pt s hs).1 hk, fun s hs hk => (h.pt s hs).2.1 hk, h.nd⟩
theorem OkU.sub {r s : RT} (h : OkU r) (hs : s ∈ subR r) : OkU s := ⟨(leafR_sub hs).nodup h.nd, fun q hq => h.pt q (subR_trans r hs hq)⟩
theorem OkU.first {r : RT} (h : OkU r) : firstR r ∈ leafR r := first_leaf r h.good.lf
theorem mem_kid {nm : ByteArray} {ks : List RT} {k : RT} (hk : k ∈ ks) : k ∈ subR (.node nm ks) := by
  rw [subR]; exact List.mem_cons_of_mem _ (mem_subRs hk k (subR_self k))
theorem OkU.leafs {nm : ByteArray} {ks : List RT} (h : OkU (.node nm ks)) (h0 : ks ≠ []) : leafR (.node nm ks) = ks.flatMap leafR :=
  leafR_node ((h.pt _ (subR_self _)).1 h0)
theorem OkU.apart {nm : ByteArray} {ks : List RT} (h : OkU (.node nm ks)) {i j : Nat} (hi : i < ks.length) (hj : j < ks.length) {x : ByteArray} (h1 : x ∈ leafR ks[i]) (h2 : x ∈ leafR ks[j]) : i = j := by
  have h0 : ks ≠ [] := fun e => by subst e; simp at hi
  have hn := h.nd
  rw [h.leafs h0, List.nodup_iff_pairwise_ne, List.pairwise_flatMap] at hn
  have hp := List.pairwise_iff_getElem.1 hn.2
  rcases Nat.lt_trichotomy i j with c | c | c
  · exact absurd rfl (hp i j hi hj c x h1 x h2)
  · exact c
  · exact absurd rfl (hp j i hj hi c x h2 x h1)
theorem OkU.same_kid {nm : ByteArray} {ks : List RT} (h : OkU (.node nm ks)) {k k' : RT} (hk : k ∈ ks) (hk' : k' ∈ ks) {x : ByteArray} (h1 : x ∈ leafR k) (h2 : x ∈ leafR k') : k = k' := by
  obtain ⟨i, hi, rfl⟩ := List.getElem_of_mem hk
  obtain ⟨j, hj, rfl⟩ := List.getElem_of_mem hk'
  have := h.apart hi hj h1 h2
  subst this; rfl
/-- A child lacks some leaf. -/
theorem OkU.lacks {nm : ByteArray} {ks : List RT} (h : OkU (.node nm ks)) {k : RT} (hk : k ∈ ks) : ∃ x ∈ leafR (.node nm ks), x ∉ leafR k := by
  have h0 : ks ≠ [] := fun e => by subst e; simp at hk
  have h1 : ks.length ≠ 1 := (h.pt _ (subR_self _)).2.2
  have h2 : 2 ≤ ks.length := by
    have := List.length_pos_of_mem hk
    omega
  obtain ⟨i, hi, rfl⟩ := List.getElem_of_mem hk
  obtain ⟨j, hj, hij⟩ : ∃ j, j < ks.length ∧ i ≠ j := by
    by_cases c : i = 0
    · exact ⟨1, by omega, by omega⟩
    · exact ⟨0, by omega, c⟩
  have hf := (h.sub (mem_kid (List.getElem_mem hj))).first
  refine ⟨firstR ks[j], ?_, fun q => hij (h.apart hi hj q hf)⟩
  rw [h.leafs h0]
  exact List.mem_flatMap.2 ⟨_, List.getElem_mem hj, hf⟩
theorem OkU.two {nm : ByteArray} {ks : List RT} (h : OkU (.node nm ks)) (h0 : ks ≠ []) (y : ByteArray) : ∃ x ∈ leafR (.node nm ks), x ≠ y := by
  obtain ⟨k, hk⟩ := List.exists_mem_of_ne_nil _ h0
  obtain ⟨x, hx, hn⟩ := h.lacks hk
  have hf := (h.sub (mem_kid hk)).first
  by_cases c : x = y
  · subst c
    refine ⟨firstR k, (leafR_sub (mem_kid hk)).subset hf, fun e => hn ?_⟩
    rw [← e]; exact hf
  · exact ⟨x, hx, c⟩
def SameL (r s : RT) : Prop := ∀ x, x ∈ leafR r ↔ x ∈ leafR s
def FamIn (r1 r2 : RT) : Prop := ∀ s ∈ subR r1, ∃ u ∈ subR r2, SameL s u
theorem fam_root {r1 r2 : RT} (h1 : FamIn r1 r2) (h2 : FamIn r2 r1) : SameL r1 r2 := by
  obtain ⟨u, hu, e⟩ := h1 r1 (subR_self _)
  obtain ⟨v, hv, f⟩ := h2 r2 (subR_self _)
  exact fun x => ⟨fun hx => (leafR_sub hu).subset ((e x).1 hx), fun hx => (leafR_sub hv).subset ((f x).1 hx)⟩
theorem mem_subRs_ex {u : RT} {ks : List RT} (h : u ∈ subRs ks) : ∃ k ∈ ks, u ∈ subR k := by
  rw [subRs_flat] at h
  obtain ⟨k, hk, hu⟩ := List.mem_flatMap.1 h
  exact ⟨k, hk, hu⟩
/-- A part below a child of the one lies below a child of the other. -/
theorem fam_kid {n1 n2 : ByteArray} {k1 k2 : List RT} (o1 : OkU (.node n1 k1)) (h1 : FamIn (.node n1 k1) (.node n2 k2)) (hs : SameL (.node n1 k1) (.node n2 k2)) {k : RT} (hk : k ∈ k1) {s : RT} (hsk : s ∈ subR k) :
    ∃ q ∈ k2, ∃ u ∈ subR q, SameL s u := by
  obtain ⟨u, hu, e⟩ := h1 s (subR_trans _ (mem_kid hk) hsk)
  rw [subR, List.mem_cons] at hu
  rcases hu with rfl | hu
  · obtain ⟨x, hx, hn⟩ := o1.lacks hk
    exact absurd ((leafR_sub hsk).subset ((e x).2 ((hs x).1 hx))) hn
  · obtain ⟨q, hq, hu⟩ := mem_subRs_ex hu
    exact ⟨q, hq, u, hu, e⟩
theorem ins_perm {a b : List RT} (h : a.Perm b) : (a.map firstR).Nodup → a.foldr insR [] = b.foldr insR [] := by
  induction h with
  | nil => intro _; rfl
  | cons x _ ih => intro hn; rw [List.foldr_cons, List.foldr_cons, ih (by rw [List.map_cons, List.nodup_cons] at hn; exact hn.2)]
  | swap x y l =>
    intro hn
    simp only [List.foldr_cons]
    rw [List.map_cons, List.nodup_cons, List.map_cons] at hn
    exact insR_comm (fun e => hn.1 (by rw [e]; simp)) _
  | trans p _ ih1 ih2 => intro hn; rw [ih1 hn, ih2 ((p.map _).nodup_iff.1 hn)]
theorem sortRs_fold : ∀ l : List RT, sortRs l = (l.map sortR).foldr insR []
  | [] => by rw [sortRs]; rfl
  | r :: l => by rw [sortRs, sortRs_fold l]; rfl
theorem size0_eq {a b : ByteArray} (ha : a.size = 0) (hb : b.size = 0) : a = b := by
  apply ByteArray.ext
  apply Array.ext
  · show a.size = b.size; omega
  · intro i hi _; have : i < a.size := hi; omega
theorem uniq_sort : ∀ (d : Nat) (r1 r2 : RT), sizeR r1 ≤ d → OkU r1 → OkU r2 → FamIn r1 r2 → FamIn r2 r1 → sortR r1 = sortR r2
  | 0, r1, _, hd, _, _, _, _ => by have := sizeR_pos r1; omega
  | d + 1, .node n1 k1, .node n2 k2, hd, o1, o2, h1, h2 => by
    have hs := fam_root h1 h2
    have hs' : SameL (.node n2 k2) (.node n1 k1) := fun x => (hs x).symm
    by_cases e1 : k1 = []
    · subst e1
      have hz1 := named_size ((o1.pt _ (subR_self _)).2.1 rfl)
      have l1 : leafR (.node n1 []) = [n1] := leafR_leaf hz1
      by_cases e2 : k2 = []
      · subst e2
        have hz2 := named_size ((o2.pt _ (subR_self _)).2.1 rfl)
        have l2 : leafR (.node n2 []) = [n2] := leafR_leaf hz2
        have := (hs n1).1 (by rw [l1]; simp)
        rw [l2, List.mem_singleton] at this
        rw [this]
      · obtain ⟨x, hx, hn⟩ := o2.two e2 n1
        have := (hs x).2 hx
        rw [l1, List.mem_singleton] at this
        exact absurd this hn
    · by_cases e2 : k2 = []
      · subst e2
        have hz2 := named_size ((o2.pt _ (subR_self _)).2.1 rfl)
        have l2 : leafR (.node n2 []) = [n2] := leafR_leaf hz2
        obtain ⟨x, hx, hn⟩ := o1.two e1 n2
        have := (hs x).1 hx
        rw [l2, List.mem_singleton] at this
        exact absurd this hn
      · have hz1 := (o1.pt _ (subR_self _)).1 e1
        have hz2 : n2.size = 0 := (o2.pt _ (subR_self _)).1 e2
        have sub1 : ∀ k ∈ k1, OkU k := fun k hk => o1.sub (mem_kid hk)
        have sub2 : ∀ k ∈ k2, OkU k := fun k hk => o2.sub (mem_kid hk)
        -- children match
        have key : ∀ {n1 n2 : ByteArray} {k1 k2 : List RT}, OkU (.node n1 k1) → OkU (.node n2 k2) → FamIn (.node n1 k1) (.node n2 k2) → FamIn (.node n2 k2) (.node n1 k1) → SameL (.node n1 k1) (.node n2 k2) → SameL (.node n2 k2) (.node n1 k1) →
            ∀ k ∈ k1, ∃ q ∈ k2, SameL k q ∧ FamIn k q ∧ FamIn q k := by
          intro n1 n2 k1 k2 o1 o2 h1 h2 hs hs' k hk
          obtain ⟨q, hq, u, hu, e⟩ := fam_kid o1 h1 hs hk (subR_self k)
          obtain ⟨k', hk', u', hu', e'⟩ := fam_kid o2 h2 hs' hq (subR_self q)
          have hf := (o1.sub (mem_kid hk)).first
          have hfq : firstR k ∈ leafR q := (leafR_sub hu).subset ((e _).1 hf)
          have hkk : k = k' := o1.same_kid hk hk' hf ((leafR_sub hu').subset ((e' _).1 hfq))
          subst hkk
          have hsame : SameL k q := fun x => ⟨fun hx => (leafR_sub hu).subset ((e x).1 hx), fun hx => (leafR_sub hu').subset ((e' x).1 hx)⟩
          refine ⟨q, hq, hsame, fun s hsk => ?_, fun s hsq => ?_⟩
          · obtain ⟨q2, hq2, v, hv, ev⟩ := fam_kid o1 h1 hs hk hsk
            have hfs := ((o1.sub (mem_kid hk)).sub hsk).first
            have := o2.same_kid hq hq2 ((hsame _).1 ((leafR_sub hsk).subset hfs)) ((leafR_sub hv).subset ((ev _).1 hfs))
            subst this
            exact ⟨v, hv, ev⟩
          · obtain ⟨q2, hq2, v, hv, ev⟩ := fam_kid o2 h2 hs' hq hsq
            have hfs := ((o2.sub (mem_kid hq)).sub hsq).first
            have := o1.same_kid hk hq2 ((hsame _).2 ((leafR_sub hsq).subset hfs)) ((leafR_sub hv).subset ((ev _).1 hfs))
            subst this
            exact ⟨v, hv, ev⟩
        have hsz : ∀ k ∈ k1, sizeR k ≤ d := fun k hk => by
          rw [sizeR] at hd
          have : ∀ l : List RT, k ∈ l → sizeR k ≤ sizeRs l := fun l => by
            induction l with
            | nil => intro h; cases h
            | cons a l ih =>
              intro h
              rw [sizeRs]
              rcases List.mem_cons.1 h with rfl | h
              · omega
              · have := ih h; omega
          have := this k1 hk
          omega
        have m1 : ∀ k ∈ k1, ∃ q ∈ k2, sortR k = sortR q := fun k hk => by
          obtain ⟨q, hq, _, f1, f2⟩ := key o1 o2 h1 h2 hs hs' k hk
          exact ⟨q, hq, uniq_sort d k q (hsz k hk) (sub1 k hk) (sub2 q hq) f1 f2⟩
        have m2 : ∀ q ∈ k2, ∃ k ∈ k1, sortR q = sortR k := fun q hq => by
          obtain ⟨k, hk, _, f1, f2⟩ := key o2 o1 h2 h1 hs' hs q hq
          exact ⟨k, hk, (uniq_sort d k q (hsz k hk) (sub1 k hk) (sub2 q hq) f2 f1).symm⟩
        have d1 : ((k1.map sortR).map firstR).Nodup := by rw [List.map_map]; exact good_dst o1.good _ (subR_self _)
        have d2 : ((k2.map sortR).map firstR).Nodup := by rw [List.map_map]; exact good_dst o2.good _ (subR_self _)
        have nd : ∀ {l : List RT}, (l.map firstR).Nodup → l.Nodup := fun {l} h => by
          unfold List.Nodup at h ⊢
          rw [List.pairwise_map] at h
          exact h.imp fun h e => h (by rw [e])
        have hp : (k1.map sortR).Perm (k2.map sortR) := (List.perm_ext_iff_of_nodup (nd d1) (nd d2)).2 fun x => by
          constructor
          · intro hx
            obtain ⟨k, hk, rfl⟩ := List.mem_map.1 hx
            obtain ⟨q, hq, e⟩ := m1 k hk
            exact List.mem_map.2 ⟨q, hq, e.symm⟩
          · intro hx
            obtain ⟨q, hq, rfl⟩ := List.mem_map.1 hx
            obtain ⟨k, hk, e⟩ := m2 q hq
            exact List.mem_map.2 ⟨k, hk, e.symm⟩
        rw [sortR, sortR, sortRs_fold, sortRs_fold, ins_perm hp d1, size0_eq (a := n1) (b := n2) hz1 hz2]
end Go.Proofs.Ytcaialhoclodjaa
namespace Go.Proofs.Ytcaialhoclodjaa
open Go.RowKit Go.Deep
section
variable {P : Program} {ops : Array Oper} {rest : List Oper} {o : Oper} {a : Act} {Q : Exit → Act → World → Prop}
end
end Go.Proofs.Ytcaialhoclodjaa
namespace Go.Proofs.Ytcaialhoclodjaa
open Go.RowKit Go.Deep
end Go.Proofs.Ytcaialhoclodjaa
namespace Go.Proofs.Ytcaialhoclodjaa
open Go.RowKit Go.Deep
/-- How many of the first numbers are in another list. -/
def comK (a b : List Int) : Nat → Nat
  | 0 => 0
  | k + 1 => comK a b k + if gi a k ∈ b then 1 else 0
theorem comK_le (a b : List Int) : ∀ k, comK a b k ≤ k
  | 0 => Nat.le_refl _
  | k + 1 => by have := comK_le a b k; rw [comK]; split <;> omega
end Go.Proofs.Ytcaialhoclodjaa
namespace Go.Proofs.Ytcaialhoclodjaa
open Go.RowKit Go.Deep
/-- The map at block b holds the entries l. -/
def SMap (w : World) (b : Nat) (l : List (ByteArray × Value)) : Prop := ∃ es clock, w.heap[b]? = some (.map es clock) ∧ es.toList.map (fun x => (x.key, x.val)) = l.map (fun x => (Value.string x.1, x.2))
section
variable {P : Program} {w : World}
theorem SMap.made (w : World) : SMap (w.alloc (.map #[] 0)) w.heap.size [] := ⟨#[], 0, (MapKept.heap_alloc w _).1, rfl⟩
theorem SMap.same {w' : World} {b : Nat} {l : List (ByteArray × Value)} (h : SMap w b l) (hb : w'.heap[b]? = w.heap[b]?) : SMap w' b l := by
  obtain ⟨es, clock, h1, h2⟩ := h
  exact ⟨es, clock, hb.trans h1, h2⟩
theorem SMap.lt {b : Nat} {l : List (ByteArray × Value)} (h : SMap w b l) : b < w.heap.size := by
  obtain ⟨es, clock, h1, _⟩ := h
  exact (Array.getElem?_eq_some_iff.1 h1).1
end
end Go.Proofs.Ytcaialhoclodjaa
namespace Go.Proofs.Ytcaialhoclodjaa
/-- Up from k, while above n. -/
def climb (ps : List Int) (n : Nat) : Nat → Nat → Nat
  | 0, k => k
  | d + 1, k => if n < k then climb ps n d (gi ps k).toNat else k
def hitB (ps : List Int) (n i : Nat) : Bool := decide (climb ps n i i = n)
theorem pOkB_par {ps : List Int} (h : pOkB ps = true) {k : Nat} (hk : k < ps.length) (h0 : 0 < k) : 0 ≤ gi ps k ∧ gi ps k < k := by
  have h1 := pOkB_at h hk
  unfold okp at h1
  rw [if_neg (by omega)] at h1
  simpa using h1
theorem climb_fuel {ps : List Int} (hp : pOkB ps = true) (n : Nat) : ∀ {d e k : Nat}, k < ps.length → k ≤ d → k ≤ e → climb ps n d k = climb ps n e k := by
  intro d
  induction d with
  | zero =>
    intro e k hl h1 h2
    obtain rfl : k = 0 := by omega
    cases e with
    | zero => rfl
    | succ e => simp [climb]
  | succ d ih =>
    intro e k hl h1 h2
    cases e with
    | zero =>
      obtain rfl : k = 0 := by omega
      simp [climb]
    | succ e =>
      rw [climb, climb]
      split
      · rename_i hnk
        have := pOkB_par hp hl (by omega)
        exact ih (by omega) (by omega) (by omega)
      · rfl
theorem climb_step {ps : List Int} (hp : pOkB ps = true) {n k : Nat} (hk : k < ps.length) (hn : n < k) : climb ps n k k = climb ps n (gi ps k).toNat (gi ps k).toNat := by
  have h1 := pOkB_par hp hk (by omega)
  obtain ⟨m, rfl⟩ : ∃ m, k = m + 1 := ⟨k - 1, by omega⟩
  rw [climb, if_pos hn]
  exact climb_fuel hp n (by omega) (by omega) (Nat.le_refl _)
theorem climb_stop {ps : List Int} {n k : Nat} (hn : ¬ n < k) : climb ps n k k = k := by
  cases k with
  | zero => rfl
  | succ k => rw [climb, if_neg hn]

/-- Node j lies below i: it is i, or lies below a child of i. -/
theorem hit_self {ps : List Int} (i : Nat) : hitB ps i i = true := by unfold hitB; rw [climb_stop (by omega)]; simp
theorem hit_le {ps : List Int} (_ : pOkB ps = true) {i : Nat} : ∀ {j : Nat}, j < ps.length → hitB ps i j = true → i ≤ j := by
  intro j
  induction j using Nat.strongRecOn with
  | ind j ih =>
    intro hj h
    by_cases e : i < j
    · omega
    · unfold hitB at h
      rw [climb_stop e] at h
      have : j = i := by simpa using h
      omega
theorem hit_step {ps : List Int} (hp : pOkB ps = true) {i j : Nat} (hj : j < ps.length) (hi : i < j) : hitB ps i j = hitB ps i (gi ps j).toNat := by
  unfold hitB; rw [climb_step hp hj hi]
theorem hit_kid {ps : List Int} (hp : pOkB ps = true) {i : Nat} : ∀ {j : Nat}, j < ps.length → (hitB ps i j = true ↔ j = i ∨ ∃ c, c < ps.length ∧ i < c ∧ gi ps c = (i : Int) ∧ hitB ps c j = true) := by
  intro j
  induction j using Nat.strongRecOn with
  | ind j ih =>
    intro hj
    by_cases e : i < j
    · have hpar := pOkB_par hp hj (by omega)
      have hpn : ((gi ps j).toNat : Int) = gi ps j := Int.toNat_of_nonneg hpar.1
      have hpl : (gi ps j).toNat < j := by omega
      rw [hit_step hp hj e, ih _ hpl (by omega)]
      constructor
      · rintro (h | ⟨c, h1, h2, h3, h4⟩)
        · exact .inr ⟨j, hj, e, by omega, hit_self j⟩
        · have := hit_le hp (show (gi ps j).toNat < ps.length by omega) h4
          exact .inr ⟨c, h1, h2, h3, by rw [hit_step hp hj (by omega)]; exact h4⟩
      · rintro (h | ⟨c, h1, h2, h3, h4⟩)
        · omega
        · have hcj := hit_le hp hj h4
          by_cases ec : c = j
          · subst ec; left; omega
          · right
            exact ⟨c, h1, h2, h3, by rw [hit_step hp hj (by omega)] at h4; exact h4⟩
    · unfold hitB
      rw [climb_stop e]
      constructor
      · intro h; left; simpa using h
      · rintro (h | ⟨c, h1, h2, h3, h4⟩)
        · simpa using h
        · have := hit_le hp hj h4; omega
end Go.Proofs.Ytcaialhoclodjaa
namespace Go.Proofs.Ytcaialhoclodjaa
end Go.Proofs.Ytcaialhoclodjaa
namespace Go.Proofs.Ytcaialhoclodjaa
/-- A sorted list of sources is the list of the bits of its set. -/
theorem src_bits {l : List Int} {n : Nat} (h : srcOk l = true) (hn : ∀ x ∈ l, x < n) : l = (bitsN n (ofS l)).map Int.ofNat := by
  obtain ⟨hs, _, hm⟩ := srcOk_small h
  have asc : ∀ k, k < l.length → ∀ j, j < k → gi l j < gi l k := by
    intro k
    induction k with
    | zero => intro _ j hj; omega
    | succ k ih =>
      intro hk j hj
      have h1 := hm (k + 1) (by omega) hk
      rw [Nat.add_sub_cancel] at h1
      by_cases e : j = k
      · subst e; exact h1
      · have := ih (by omega) j (by omega); omega
  have p1 : l.Pairwise (· < ·) := by
    rw [List.pairwise_iff_getElem]
    intro i j hi hj hij
    have := asc j hj i hij
    simpa [gi, hi, hj] using this
  have p2 : ((bitsN n (ofS l)).map Int.ofNat).Pairwise (· < ·) := by
    rw [List.pairwise_map]
    refine (List.Pairwise.filter _ List.pairwise_lt_range).imp fun h => ?_
    exact Int.ofNat_lt.2 h
  have hmem : ∀ x, x ∈ l ↔ x ∈ (bitsN n (ofS l)).map Int.ofNat := by
    intro x
    constructor
    · intro hx
      obtain ⟨i, rfl, _⟩ := small_mem hs hx
      exact List.mem_map.2 ⟨i, mem_bitsN.2 ⟨by have := hn _ hx; omega, (testBit_ofS hs i).2 hx⟩, rfl⟩
    · intro hx
      obtain ⟨i, hi, rfl⟩ := List.mem_map.1 hx
      exact (testBit_ofS hs i).1 (mem_bitsN.1 hi).2
  have nd : ∀ {q : List Int}, q.Pairwise (· < ·) → q.Nodup := fun h => h.imp fun h => by omega
  have hp : l.Perm ((bitsN n (ofS l)).map Int.ofNat) := (List.perm_ext_iff_of_nodup (nd p1) (nd p2)).2 hmem
  exact List.Perm.eq_of_pairwise (le := fun a b : Int => a < b) (fun a b _ _ h1 h2 => by omega) p1 p2 hp
theorem bits_asc (n x : Nat) : (bitsN n x).Pairwise (· < ·) := List.Pairwise.filter _ List.pairwise_lt_range
end Go.Proofs.Ytcaialhoclodjaa
namespace Go.Proofs
open Go.Shelf
end Go.Proofs
namespace Go.Proofs.Ytcaialhoclodjaa
open Go.RowKit Go.Sort Go.Shelf Go.Deep
end Go.Proofs.Ytcaialhoclodjaa
namespace Go.Proofs.Ytcaialhoclodjaa
open Go.RowKit Go.Deep
end Go.Proofs.Ytcaialhoclodjaa
namespace Go.Proofs.Ytcaialhoclodjaa
open Go.RowKit Go.Deep
/-- Equal strings, one by one. -/
theorem strs_ext {xs ys : List ByteArray} (hl : xs.length = ys.length) (h : ∀ j, j < xs.length → gs xs j = gs ys j) : xs = ys := by
  refine List.ext_getElem hl fun i h1 h2 => ?_
  have := h i h1
  simpa [gs, h1, h2] using this
set_option maxRecDepth 100000 in
set_option maxHeartbeats 400000 in
theorem equal_str_t (S T : Nat → Prop) (w : World) (v u : Value) (xs ys : List ByteArray) (h : StrsAt S w v xs) (h2 : StrsAt T w u ys) (hn : xs.length ≤ 1000000) (hn2 : ys.length ≤ 1000000) :
    Calls Try.prog 30 #[v, u] w (EqPost w (decide (xs = ys))) := by
  obtain ⟨p, cap, rfl, hcap, _⟩ := SlAt.open h
  obtain ⟨q, cap2, rfl, hcap2, _⟩ := SlAt.open h2
  have HX : Hid (StrsAt S w (.slice p xs.length cap) xs) := h
  have HY : Hid (StrsAt T w (.slice q ys.length cap2) ys) := h2
  clear h h2
  by_cases hl : xs.length = ys.length
  · have hl1 : ((xs.length : Int) != ys.length) = false := by simp [hl]
    have HL := Lib.hid hl
    clear hl
    go_enter Try.func30, Try.ntmps30
    go_wp2_with fail
    go_loopw [5, 13] (fun _ i wr => ∃ k n : Nat, k ≤ xs.length ∧ i = .int .i64 k ∧ wr = w.drewN n ∧ Hid (∀ j, j < k → gs xs j = gs ys j)) (fun _ i _ => xs.length - (intOf i).toNat)
    case atStart => exact ⟨0, 0, Nat.zero_le _, rfl, rfl, fun j hj => absurd hj (Nat.not_lt_zero _)⟩
    case round =>
      obtain ⟨k, n, hk, rfl, rfl, hd⟩ := hrel
      by_cases hlt : k < xs.length
      · have hlt2 : k < ys.length := by rw [← HL.out]; exact hlt
        obtain ⟨b, off, rfl, hc⟩ := strs_get HX.out hlt
        obtain ⟨b2, off2, rfl, hc2⟩ := strs_get HY.out hlt2
        have i1 : (0 : Int) ≤ (k : Int) := by omega
        have i2 : (k : Int) < (xs.length : Int) := by omega
        have i3 : (k : Int) < (ys.length : Int) := by omega
        generalize hx : gs xs k = x at *
        generalize hy : gs ys k = y at *
        have HXX := Lib.hid hx
        have HYY := Lib.hid hy
        clear hx hy
        by_cases hxy : x = y
        · have hxy0 : (x.toList == y.toList) = true := by simp [hxy]
          have hxy1 : (x.toList != y.toList) = false := by simp [hxy]
          have HXY := Lib.hid hxy
          clear hxy
          go_wp2_with fail
          go_quiet (fail)
          go_wp2_with fail
          go_roundw
          case rel => exact ⟨k + 1, n + nq, by omega, by go_num, rfl, fun j hj => if e : j = k then by subst e; rw [HXX.out, HYY.out, HXY.out] else hd.out j (by omega)⟩
          case measure => simp [intOf]; omega
        · have hxy0 : (x.toList == y.toList) = false := by
            cases h : (x.toList == y.toList) with
            | false => rfl
            | true => exact absurd (str_yes h) hxy
          have hxy1 : (x.toList != y.toList) = true := by unfold bne; rw [hxy0]; rfl
          have HXY := Lib.hid hxy
          clear hxy
          go_wp2_with fail
          go_quiet (fail)
          go_wp2_with fail
          go_ret
          refine ⟨ret_bool ?_, n + nq, by rw [World.drewN_drewN]⟩
          rw [eq_comm, decide_eq_false_iff_not]
          rintro rfl
          exact HXY.out (by rw [← HXX.out, ← HYY.out])
      · obtain rfl : k = xs.length := by omega
        clear hlt hk
        have hex : xs = ys := strs_ext HL.out hd.out
        have HEX : Hid (decide (xs = ys) = true) := decide_eq_true hex
        clear hex
        go_wp2_with fail
        go_ret
        exact ⟨ret_bool (by rw [HEX.out]), n, rfl⟩
  · have hl1 : ((xs.length : Int) != ys.length) = true := by simp; omega
    have HL := Lib.hid hl
    clear hl
    go_enter Try.func30, Try.ntmps30
    go_wp2_with fail
    go_ret
    refine ⟨ret_bool ?_, 0, rfl⟩
    rw [eq_comm, decide_eq_false_iff_not]
    rintro rfl
    exact HL.out rfl
end Go.Proofs.Ytcaialhoclodjaa
namespace Go.Proofs.Ytcaialhoclodjaa
section
variable {names : List ByteArray} {l : List Grp}
theorem PartOk.sort {r : RT} (h : ∀ s ∈ subR r, PartOk s) : ∀ s ∈ subR (sortR r), PartOk s := by
  intro s hs
  obtain ⟨q, hq, rfl⟩ := List.mem_map.1 ((subR_sort r).mem_iff.1 hs)
  obtain ⟨h1, h2, h3⟩ := h q hq
  refine ⟨fun e => ?_, fun e => ?_, ?_⟩
  · rw [sortR_nm]; rw [sortR_kids] at e; exact h1 (fun e2 => e (sortRs_nil.2 e2))
  · rw [sortR_nm]; rw [sortR_kids] at e; exact h2 (sortRs_nil.1 e)
  · rw [sortR_kids, (sortRs_perm q.kids).length_eq, List.length_map]; exact h3
end
end Go.Proofs.Ytcaialhoclodjaa
namespace Go.Proofs.Ytcaialhoclodjaa
open Go.RowKit Go.Shelf Go.Deep
section
variable {P : Program} {C : World → Prop}
end
end Go.Proofs.Ytcaialhoclodjaa
namespace Go.Proofs.Ytcaialhoclodjaa
open Go.RowKit Go.Shelf Go.Deep
end Go.Proofs.Ytcaialhoclodjaa
namespace Go.Proofs
open Go.Shelf
end Go.Proofs
namespace Go.Proofs.Ytcaialhoclodjaa
open Go.RowKit Go.Shelf Go.Deep Go.Sort
end Go.Proofs.Ytcaialhoclodjaa
namespace Go.Proofs.Ytcaialhoclodjaa
open Go.RowKit Go.Deep
end Go.Proofs.Ytcaialhoclodjaa
namespace Go.Proofs.Ytcaialhoclodjaa
/-- A leaf below node i has the number b. -/
def Under (t : Tre) (num : ByteArray → Nat) (i b : Nat) : Prop := ∃ j, j < t.ps.length ∧ (gs t.ns j).size ≠ 0 ∧ hitB t.ps i j = true ∧ num (gs t.ns j) = b
structure OwnInv (t : Tre) (num : ByteArray → Nat) (k : Nat) (o : List Nat) : Prop where
  len : o.length = t.ps.length
  up : ∀ i, k ≤ i → i < t.ps.length → ∀ b, (gn o i).testBit b = true ↔ Under t num i b
  down : ∀ i, i < k → i < t.ps.length → ∀ b, (gn o i).testBit b = true ↔ ∃ c, k ≤ c ∧ c < t.ps.length ∧ gi t.ps c = (i : Int) ∧ Under t num c b
section
variable {names : List ByteArray} {l : List Grp}
end
end Go.Proofs.Ytcaialhoclodjaa
