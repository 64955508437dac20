/- The sets of layer 35's reference are nested, and their tree is the program's: plain. SharederrorClades, plain: the tree whose leaves are renamed, the lists of the leaves below its nodes. The turned forest: plain. The turned forest: what the loop gives; what pruned leaves of it. Plain. Parse, plain: the machine over a stack of lists of rose trees; the forest that grows. strings.Builder: WriteByte, WriteString, String: laid -/
import Derived.Test.YtcbmbhghmfehpaaGreatQ18
import Derived.Test.YtcbmbhghmfehpaaGreatQ17
import Derived.Test.YtcbmbhghmfehpaaGreatQ19
import Derived.Lib.IndexAny
import Derived.Shelf.SlGeneric
import Derived.Shelf.Strings.BuilderK
import Derived.Ground.NamesProg
import Derived.Ground.Names2Prog
import Derived.Test.YtcbmbhghmfehpaaGreatProg
namespace Go.Proofs.YtcbmbhghmfehpaaGreat
section
variable {names : List ByteArray} {l : List Grp}
theorem mem_setsL {n : Nat} (hn : 0 < n) {x : List Int} : x ∈ setsL n l ↔ x = allI n ∨ (∃ i, i < l.length ∧ (gg l i).src = x ∧ 2 ≤ x.length ∧ x.length < n) ∨ (1 < n ∧ ∃ i : Nat, i < n ∧ x = [(i : Int)]) := by
  unfold setsL
  by_cases h1 : 1 < n
  · rw [if_pos h1, List.mem_append, (stZ_ord h1 (n - 2) (Nat.le_refl _)).2.2 x, show n - (n - 2) = 2 by omega, List.mem_map, or_assoc]
    constructor
    · rintro (e | e | ⟨i, hi, rfl⟩)
      · exact .inl e
      · exact .inr (.inl e)
      · exact .inr (.inr ⟨h1, i, List.mem_range.1 hi, rfl⟩)
    · rintro (e | e | ⟨_, i, hi, rfl⟩)
      · exact .inl e
      · exact .inr (.inl e)
      · exact .inr (.inr ⟨i, List.mem_range.2 hi, rfl⟩)
  · obtain rfl : n = 1 := by omega
    rw [if_neg h1]
    show x ∈ [allI 1] ↔ _
    rw [List.mem_singleton]
    constructor
    · exact .inl
    · rintro (e | ⟨i, _, _, _, _⟩ | ⟨_, _⟩)
      · exact e
      · omega
      · omega
theorem stI_head {S : List (List Int)} {size : Nat} (h : 0 < S.length) : ∀ k, 0 < (stI l S size k).length ∧ gl (stI l S size k) 0 = gl S 0
  | 0 => ⟨h, rfl⟩
  | k + 1 => by
    obtain ⟨h1, h2⟩ := stI_head h k
    rw [stI]
    split
    · exact ⟨h1, h2⟩
    · refine ⟨by rw [List.length_append]; omega, ?_⟩
      rw [← h2]; unfold gl; rw [List.getD_eq_getElem?_getD, List.getD_eq_getElem?_getD, List.getElem?_append_left h1]
theorem stZ_head (n : Nat) : ∀ k, 0 < (stZ n l k).length ∧ gl (stZ n l k) 0 = allI n
  | 0 => ⟨by simp [stZ], rfl⟩
  | k + 1 => by
    obtain ⟨h1, h2⟩ := stZ_head n k
    obtain ⟨h3, h4⟩ := stI_head (l := l) (size := n - 1 - k) h1 l.length
    exact ⟨h3, h4.trans h2⟩
theorem ShOk.src_asc (h : ShOk names l) {k : Nat} (hk : k < l.length) : (gg l k).src.Pairwise (· < ·) ∧ (gg l k).src ≠ [] ∧ ∀ y ∈ (gg l k).src, 0 ≤ y ∧ y < (names.length : Int) := by
  have hs := ((gcErr_zero h.gc).2 k hk).2.2.2
  refine ⟨?_, fun e => ?_, fun y hy => ⟨?_, h.far k hk y hy⟩⟩
  · have hb := src_bits (n := names.length) hs (fun x hx => h.far k hk x hx)
    rw [hb, List.pairwise_map]
    exact (bits_asc _ _).imp fun h => Int.ofNat_lt.2 h
  · have := (srcOk_small hs).2.1
    rw [e] at this; simp at this
  · obtain ⟨q, rfl, _⟩ := small_mem (srcOk_small hs).1 hy
    omega
theorem ShOk.src_lam (h : ShOk names l) {i k : Nat} (hi : i < l.length) (hk : k < l.length) : (∀ z ∈ (gg l i).src, z ∈ (gg l k).src) ∨ (∀ z ∈ (gg l k).src, z ∈ (gg l i).src) ∨ ∀ z ∈ (gg l i).src, z ∉ (gg l k).src := by
  have hw : ∀ {a b : Nat}, a < l.length → b < l.length → withinB (ofS (gg l a).src) (ofS (gg l b).src) = true → ∀ z ∈ (gg l a).src, z ∈ (gg l b).src := fun {a b} ha hb hw z hz => by
    obtain ⟨q, rfl, _⟩ := small_mem (h.small ha) hz
    exact (h.bits hb).1 ((withinB_iff (ofS_u64 (h.small ha)) (ofS_u64 (h.small hb))).1 hw q ((h.bits ha).2 hz))
  have hd : ∀ {a b : Nat}, a < l.length → b < l.length → ofS (gg l a).src &&& ofS (gg l b).src = 0 → ∀ z ∈ (gg l a).src, z ∉ (gg l b).src := fun {a b} ha hb he z hz hz2 => by
    obtain ⟨q, rfl, _⟩ := small_mem (h.small ha) hz
    have h1 := (h.bits ha).2 hz
    have h2 := (h.bits hb).2 hz2
    have := congrArg (fun x => x.testBit q) he
    simp [Nat.testBit_and, h1, h2] at this
  rcases Nat.lt_trichotomy i k with c | c | c
  · rcases conf_cases (h.cf i k c hk) with q | q | q
    · exact .inl (hw hi hk q)
    · exact .inr (.inl (hw hk hi q))
    · exact .inr (.inr (hd hi hk q))
  · subst c; exact .inl fun z hz => hz
  · rcases conf_cases (h.cf k i c hi) with q | q | q
    · exact .inr (.inl (hw hk hi q))
    · exact .inl (hw hi hk q)
    · exact .inr (.inr (hd hi hk (by rw [Nat.and_comm]; exact q)))
theorem ShOk.sets (h : ShOk names l) : SetsOk names.length (setsL names.length l) := by
  have hn := h.pos
  have asc : ∀ x ∈ setsL names.length l, x.Pairwise (· < ·) ∧ x ≠ [] ∧ ∀ y ∈ x, 0 ≤ y ∧ y < (names.length : Int) := fun x hx => by
    rcases (mem_setsL hn).1 hx with rfl | ⟨i, hi, rfl, _, _⟩ | ⟨_, i, hi, rfl⟩
    · refine ⟨?_, fun e => ?_, fun y hy => mem_allI.1 hy⟩
      · unfold allI
        rw [List.pairwise_map]
        exact List.pairwise_lt_range.imp fun h => Int.ofNat_lt.2 h
      · have := congrArg List.length e
        rw [allI_len, List.length_nil] at this; omega
    · exact h.src_asc hi
    · refine ⟨by simp, by simp, fun y hy => ?_⟩
      rw [List.mem_singleton] at hy; omega
  refine ⟨asc, fun x hx y hy => ?_, ?_, ?_, ?_, ?_, fun i hi => ?_⟩
  · have top : ∀ {u : List Int}, u ∈ setsL names.length l → ∀ z ∈ u, z ∈ allI names.length := fun hu z hz => mem_allI.2 ((asc _ hu).2.2 z hz)
    have single : ∀ {u : List Int} {i : Int}, (∀ z ∈ [i], z ∈ u) ∨ ∀ z ∈ [i], z ∉ u := fun {u i} => by
      by_cases c : i ∈ u
      · exact .inl fun z hz => by rw [List.mem_singleton] at hz; rw [hz]; exact c
      · exact .inr fun z hz => by rw [List.mem_singleton] at hz; rw [hz]; exact c
    rcases (mem_setsL hn).1 hx with rfl | ⟨i, hi, rfl, _, _⟩ | ⟨_, i, hi, rfl⟩
    · exact .inr (.inl (top hy))
    · rcases (mem_setsL hn).1 hy with rfl | ⟨k, hk, rfl, _, _⟩ | ⟨_, k, hk, rfl⟩
      · exact .inl (top hx)
      · exact h.src_lam hi hk
      · rcases single (u := (gg l i).src) (i := (k : Int)) with q | q
        · exact .inr (.inl q)
        · exact .inr (.inr fun z hz c => q z c hz)
    · rcases single (u := y) (i := (i : Int)) with q | q
      · exact .inl q
      · exact .inr (.inr q)
  · unfold setsL
    by_cases h1 : 1 < names.length
    · rw [if_pos h1]
      obtain ⟨g1, _, g3⟩ := stZ_ord (l := l) h1 (names.length - 2) (Nat.le_refl _)
      refine List.nodup_append.2 ⟨g1, ?_, fun a ha b hb e => ?_⟩
      · unfold List.Nodup
        rw [List.pairwise_map]
        exact List.pairwise_lt_range.imp fun h e => by simp at e; omega
      · subst e
        obtain ⟨i, hi, rfl⟩ := List.mem_map.1 hb
        rcases (g3 _).1 ha with q | ⟨_, _, _, q, _⟩
        · have := congrArg List.length q
          rw [allI_len] at this; simp at this; omega
        · simp at q; omega
    · rw [if_neg h1]
      have : names.length - 2 = 0 := by omega
      rw [this]; simp [stZ]
  · unfold setsL
    by_cases h1 : 1 < names.length
    · rw [if_pos h1]
      obtain ⟨_, g2, g3⟩ := stZ_ord (l := l) h1 (names.length - 2) (Nat.le_refl _)
      refine List.pairwise_append.2 ⟨g2, ?_, fun a ha b hb => ?_⟩
      · rw [List.pairwise_map]
        exact List.pairwise_lt_range.imp fun _ => by simp
      · obtain ⟨i, hi, rfl⟩ := List.mem_map.1 hb
        rcases (g3 _).1 ha with rfl | ⟨_, _, _, q, _⟩
        · rw [allI_len]; simp; omega
        · simp; omega
    · rw [if_neg h1]
      have : names.length - 2 = 0 := by omega
      rw [this]; simp [stZ]
  · obtain ⟨g, _⟩ := stZ_head (l := l) names.length (names.length - 2)
    unfold setsL
    split
    · rw [List.length_append]; omega
    · exact g
  · obtain ⟨g, e⟩ := stZ_head (l := l) names.length (names.length - 2)
    unfold setsL
    split
    · rw [← e]; unfold gl; rw [List.getD_eq_getElem?_getD, List.getD_eq_getElem?_getD, List.getElem?_append_left g]
    · exact e
  · rw [mem_setsL hn]
    by_cases h1 : 1 < names.length
    · exact .inr (.inr ⟨h1, i, hi, rfl⟩)
    · left
      have e1 : names.length = 1 := by omega
      have : i = 0 := by omega
      subst this; rw [e1]; rfl
theorem lv_sort {s : RT} {x : List Int} (h : Lv names s x) : Lv names (sortR s) x := fun y => by rw [(leafR_sort s).mem_iff]; exact h y
end
end Go.Proofs.YtcbmbhghmfehpaaGreat
namespace Go.Proofs.YtcbmbhghmfehpaaGreat
section
variable {t : Tre}
/-- What lies below i, by the parents and by the children. -/
theorem sub_hit (h : treeErr t = 0) : ∀ (d i j : Nat), t.ps.length - i ≤ d → i < t.ps.length → j < t.ps.length → subF (frT t) (rkT t) i j = hitB t.ps i j
  | 0, i, _, hd, hi, _ => by omega
  | d + 1, i, j, hd, hi, hj => by
    obtain ⟨_, _, _, hok, _⟩ := treeErr_zero h
    have hw := (frT_arb h).wf
    rw [Bool.eq_iff_iff, hit_kid hok hj, subF_eq hw hi, Bool.or_eq_true, beq_iff_eq, List.any_eq_true]
    constructor
    · rintro (e | ⟨c, hc, e⟩)
      · exact .inl e
      · rw [frT_kids] at hc
        obtain ⟨h1, h2, h3⟩ := mem_kidsL.1 hc
        exact .inr ⟨c, h1, h2, h3, by rw [← sub_hit h d c j (by omega) h1 hj]; exact e⟩
    · rintro (e | ⟨c, h1, h2, h3, e⟩)
      · exact .inl e
      · exact .inr ⟨c, by rw [frT_kids]; exact mem_kidsL.2 ⟨h1, h2, h3⟩, by rw [sub_hit h d c j (by omega) h1 hj]; exact e⟩
theorem hit_chain {ps : List Int} (hp : pOkB ps = true) {i k : Nat} (hik : i ≤ k) : ∀ (d j : Nat), j ≤ d → j < ps.length → hitB ps i j = true → hitB ps k j = true → hitB ps i k = true
  | d, j, hd, hj, h1, h2 => by
    have hkj := hit_le hp hj h2
    by_cases e : j = k
    · subst e; exact h1
    · obtain ⟨p0, pj⟩ := pOkB_par hp hj (by omega)
      rw [hit_step hp hj (by omega)] at h1 h2
      cases d with
      | zero => omega
      | succ d => exact hit_chain hp hik d (gi ps j).toNat (by omega) (by omega) h1 h2
end
end Go.Proofs.YtcbmbhghmfehpaaGreat
namespace Go.Proofs.YtcbmbhghmfehpaaGreat
/-- Is z the leaf or above it? -/
def onP (t : Tre) (leaf z : Nat) : Bool := hitB t.ps z leaf
def rrQ (t : Tre) (leaf z : Nat) : List Nat :=
  if z = t.ps.length then leaf :: (if leaf = 0 then [] else [(gi t.ps leaf).toNat])
  else if onP t leaf z = true ∧ z ≠ leaf then (kidsL t.ps z).filter (fun k => !onP t leaf k) ++ (if z = 0 then [] else [(gi t.ps z).toNat])
  else kidsL t.ps z
def rrF (t : Tre) (leaf : Nat) : Frs := ⟨upd (gs t.ns) t.ps.length ByteArray.empty, upd (fun i => (i : Int)) t.ps.length 0, rrQ t leaf⟩
def rkR (t : Tre) (leaf z : Nat) : Nat := if z = t.ps.length then 3 * t.ps.length + 3 else if onP t leaf z = true ∧ z ≠ leaf then t.ps.length + 1 + z else rkT t z
structure LeafOk (t : Tre) (leaf : Nat) : Prop where
  te : treeErr t = 0
  lt : leaf < t.ps.length
  nm : (gs t.ns leaf).size ≠ 0
section
variable {t : Tre} {leaf : Nat}
theorem LeafOk.ok (h : LeafOk t leaf) : pOkB t.ps = true := (treeErr_zero h.te).2.2.2.1
theorem LeafOk.pos (h : LeafOk t leaf) : 0 < t.ps.length := (treeErr_zero h.te).1
theorem LeafOk.nokid (h : LeafOk t leaf) : kidsL t.ps leaf = [] := by
  cases hk : kidsL t.ps leaf with
  | nil => rfl
  | cons k l =>
    obtain ⟨h1, h2, h3⟩ := mem_kidsL.1 (show k ∈ kidsL t.ps leaf by rw [hk]; simp)
    exact absurd (inner_empty h.te h1 h2 h3) h.nm
theorem LeafOk.par (h : LeafOk t leaf) {z : Nat} (hz : z < t.ps.length) (h0 : z ≠ 0) : ∃ q : Nat, gi t.ps z = q ∧ q < z := by
  have := pOkB_par h.ok hz (by omega)
  exact ⟨(gi t.ps z).toNat, by omega, by omega⟩
theorem LeafOk.on_self (_h : LeafOk t leaf) : onP t leaf leaf = true := hit_self leaf
theorem LeafOk.on_le (h : LeafOk t leaf) {z : Nat} (hz : onP t leaf z = true) : z ≤ leaf := hit_le h.ok h.lt hz
theorem LeafOk.on_par (h : LeafOk t leaf) {z q : Nat} (hz : onP t leaf z = true) (h0 : z ≠ 0) (hq : gi t.ps z = q) : onP t leaf q = true := by
  have hzl := h.on_le hz
  have hzn : z < t.ps.length := Nat.lt_of_le_of_lt hzl h.lt
  obtain ⟨q', h1, h2⟩ := h.par hzn h0
  obtain rfl : q = q' := by omega
  exact (hit_kid h.ok h.lt).2 (.inr ⟨z, hzn, h2, hq, hz⟩)
theorem LeafOk.on_kid (h : LeafOk t leaf) {z : Nat} (hz : onP t leaf z = true) (hne : z ≠ leaf) : ∃ c, c < t.ps.length ∧ z < c ∧ gi t.ps c = z ∧ onP t leaf c = true := by
  rcases (hit_kid h.ok h.lt).1 hz with e | ⟨c, h1, h2, h3, h4⟩
  · exact absurd e.symm hne
  · exact ⟨c, h1, h2, h3, h4⟩
/-- Of two nodes on the way the lower number lies above. -/
theorem LeafOk.on_chain (h : LeafOk t leaf) {x y q : Nat} (hx : onP t leaf x = true) (hy : onP t leaf y = true) (hxy : x < y) (hq : gi t.ps y = q) : x ≤ q := by
  have hyn : y < t.ps.length := Nat.lt_of_le_of_lt (h.on_le hy) h.lt
  obtain ⟨q', h1, h2⟩ := h.par hyn (by omega)
  obtain rfl : q = q' := by omega
  have h3 := hit_chain h.ok (Nat.le_of_lt hxy) leaf leaf (Nat.le_refl _) h.lt hx hy
  rw [hit_step h.ok hyn hxy, hq] at h3
  exact hit_le h.ok (show q < _ by omega) h3
theorem LeafOk.on_one (h : LeafOk t leaf) {x y q : Nat} (hx : onP t leaf x = true) (hy : onP t leaf y = true) (hx0 : q < x) (hy0 : q < y) (e1 : gi t.ps x = q) (e2 : gi t.ps y = q) : x = y := by
  rcases Nat.lt_trichotomy x y with c | c | c
  · have := h.on_chain hx hy c e2; omega
  · exact c
  · have := h.on_chain hy hx c e1; omega
/-- Which children the nodes of the turned forest have. -/
theorem rr_mem (h : LeafOk t leaf) {p k : Nat} (hp : p < t.ps.length + 1) (hk : k ∈ (rrF t leaf).kids p) :
    (p = t.ps.length ∧ k = leaf) ∨ (p = t.ps.length ∧ leaf ≠ 0 ∧ gi t.ps leaf = k ∧ k < leaf) ∨ (p < t.ps.length ∧ k < t.ps.length ∧ p < k ∧ gi t.ps k = p ∧ onP t leaf k = false) ∨ (p < t.ps.length ∧ onP t leaf p = true ∧ p ≠ leaf ∧ p ≠ 0 ∧ gi t.ps p = k ∧ k < p) := by
  have hk : k ∈ rrQ t leaf p := hk
  unfold rrQ at hk
  split at hk
  · rename_i e
    rcases List.mem_cons.1 hk with e2 | e2
    · exact .inl ⟨e, e2⟩
    · split at e2
      · cases e2
      · rename_i h0
        have e2 : k = (gi t.ps leaf).toNat := by simpa using e2
        obtain ⟨q, h1, h2⟩ := h.par h.lt h0
        exact .inr (.inl ⟨e, h0, by omega, by omega⟩)
  · rename_i e
    split at hk
    · rename_i hz
      rcases List.mem_append.1 hk with h1 | h1
      · obtain ⟨h1, h2⟩ := List.mem_filter.1 h1
        obtain ⟨h3, h4, h5⟩ := mem_kidsL.1 h1
        exact .inr (.inr (.inl ⟨by omega, h3, h4, h5, by simpa using h2⟩))
      · split at h1
        · cases h1
        · rename_i h0
          have h1 : k = (gi t.ps p).toNat := by simpa using h1
          obtain ⟨q, h2, h3⟩ := h.par (z := p) (by omega) h0
          exact .inr (.inr (.inr ⟨by omega, hz.1, hz.2, h0, by omega, by omega⟩))
    · rename_i hz
      obtain ⟨h3, h4, h5⟩ := mem_kidsL.1 hk
      refine .inr (.inr (.inl ⟨by omega, h3, h4, h5, ?_⟩))
      cases hc : onP t leaf k with
      | false => rfl
      | true =>
        have := h.on_par hc (by omega) h5
        have : p = leaf := by
          by_cases c : p = leaf
          · exact c
          · exact absurd ⟨this, c⟩ hz
        rw [this, h.nokid] at hk; cases hk
theorem rk_on (_h : LeafOk t leaf) {z : Nat} (hz : z < t.ps.length) (ho : onP t leaf z = true) (hne : z ≠ leaf) : rkR t leaf z = t.ps.length + 1 + z := by
  unfold rkR; rw [if_neg (by omega), if_pos ⟨ho, hne⟩]
theorem rk_off {z : Nat} (hz : z < t.ps.length) (ho : onP t leaf z = false ∨ z = leaf) : rkR t leaf z = t.ps.length - z := by
  unfold rkR; rw [if_neg (by omega), if_neg]
  · rfl
  · rintro ⟨h1, h2⟩
    rcases ho with e | e
    · rw [e] at h1; cases h1
    · exact h2 e
/-- Which nodes have no children. -/
theorem rr_leaf (h : LeafOk t leaf) {z : Nat} (hz : z < t.ps.length + 1) (hk : (rrF t leaf).kids z = []) : z < t.ps.length ∧ (kidsL t.ps z = [] ∨ (z = 0 ∧ (gs t.ns 0).size = 0)) := by
  have hk : rrQ t leaf z = [] := hk
  unfold rrQ at hk
  split at hk
  · cases hk
  · rename_i e
    refine ⟨by omega, ?_⟩
    split at hk
    · rename_i hc
      obtain ⟨c, h1, h2, h3, _⟩ := h.on_kid hc.1 hc.2
      by_cases h0 : z = 0
      · subst h0; exact .inr ⟨rfl, inner_empty h.te h1 h2 h3⟩
      · rw [if_neg h0] at hk
        simp at hk
    · exact .inl hk
theorem tleaf_named (h : treeErr t = 0) {z : Nat} (hz : z < t.ps.length) (hk : kidsL t.ps z = []) : namedB (gs t.ns z).data.toList = true := by
  obtain ⟨_, _, _, hok, _⟩ := treeErr_zero h
  refine (leaf_named h hz ?_).1
  cases hin : isIn t.ps z with
  | false => rfl
  | true => exact absurd hk ((kids_isIn hok z).2 hin)
theorem rr_arb (h : LeafOk t leaf) : Arb (rrF t leaf) (t.ps.length + 1) (rkR t leaf) := by
  have hlt := h.lt
  refine ⟨⟨fun p hp k hk => ?_⟩, fun p q k hp hq h1 h2 => ?_, fun i hi => ?_, fun a b ha hb h1 h2 e => ?_⟩
  · rcases rr_mem h hp hk with ⟨rfl, rfl⟩ | ⟨rfl, h0, e, hlt2⟩ | ⟨h1, h2, h3, e, ho⟩ | ⟨h1, ho, hne, h0, e, hlt2⟩
    · refine ⟨by omega, ?_⟩
      rw [rk_off h.lt (.inr rfl)]
      unfold rkR; rw [if_pos rfl]; omega
    · refine ⟨by omega, ?_⟩
      rw [rk_on h (by omega) (h.on_par h.on_self h0 e) (by omega)]
      unfold rkR; rw [if_pos rfl]; omega
    · refine ⟨by omega, ?_⟩
      rw [rk_off h2 (.inl ho)]
      by_cases c : onP t leaf p = true ∧ p ≠ leaf
      · rw [rk_on h h1 c.1 c.2]; omega
      · have : onP t leaf p = false ∨ p = leaf := by
          cases hc : onP t leaf p with
          | false => exact .inl rfl
          | true => exact .inr (Classical.byContradiction fun x => c ⟨hc, x⟩)
        rw [rk_off h1 this]; omega
    · refine ⟨by omega, ?_⟩
      rw [rk_on h h1 ho hne, rk_on h (by omega) (h.on_par ho h0 e) (by have := h.on_le ho; omega)]; omega
  · have hon : ∀ p, p < t.ps.length + 1 → k ∈ (rrF t leaf).kids p → (onP t leaf k = false ∧ p < t.ps.length ∧ gi t.ps k = p) ∨ (onP t leaf k = true ∧ (p = t.ps.length ∧ (k = leaf ∨ gi t.ps leaf = k ∧ k < leaf) ∨ p < t.ps.length ∧ onP t leaf p = true ∧ p ≠ leaf ∧ gi t.ps p = k ∧ k < p)) := fun p hp hk => by
      rcases rr_mem h hp hk with ⟨rfl, rfl⟩ | ⟨rfl, h0, e, hlt2⟩ | ⟨h1, h2, h3, e, ho⟩ | ⟨h1, ho, hne, h0, e, hlt2⟩
      · exact .inr ⟨h.on_self, .inl ⟨rfl, .inl rfl⟩⟩
      · exact .inr ⟨h.on_par h.on_self h0 e, .inl ⟨rfl, .inr ⟨e, hlt2⟩⟩⟩
      · exact .inl ⟨ho, h1, e⟩
      · exact .inr ⟨h.on_par ho h0 e, .inr ⟨h1, ho, hne, e, hlt2⟩⟩
    rcases hon p hp h1 with ⟨a1, a2, a3⟩ | ⟨a1, a2⟩
    · rcases hon q hq h2 with ⟨_, b2, b3⟩ | ⟨b1, _⟩
      · omega
      · rw [a1] at b1; cases b1
    · rcases hon q hq h2 with ⟨b1, _⟩ | ⟨_, b2⟩
      · rw [a1] at b1; cases b1
      · rcases a2 with ⟨a2, a3⟩ | ⟨a2, a3, a4, a5, a6⟩
        · rcases b2 with ⟨b2, b3⟩ | ⟨b2, b3, b4, b5, b6⟩
          · omega
          · exfalso
            have := h.on_le b3
            rcases a3 with e | ⟨e, e2⟩
            · omega
            · exact b4 (h.on_one b3 h.on_self b6 e2 b5 e)
        · rcases b2 with ⟨b2, b3⟩ | ⟨b2, b3, b4, b5, b6⟩
          · exfalso
            have := h.on_le a3
            rcases b3 with e | ⟨e, e2⟩
            · omega
            · exact a4 (h.on_one a3 h.on_self a6 e2 a5 e)
          · exact h.on_one a3 b3 a6 b6 a5 b5
  · show (rrQ t leaf i).Nodup
    unfold rrQ
    have hkn : (kidsL t.ps i).Nodup := List.Pairwise.filter _ List.nodup_range
    split
    · split
      · simp
      · rename_i h0
        obtain ⟨q, h1, h2⟩ := h.par hlt h0
        simp; omega
    · split
      · split
        · rw [List.append_nil]; exact hkn.filter _
        · rename_i hi2 _ h0
          obtain ⟨q, h1, h2⟩ := h.par (z := i) (by omega) h0
          rw [List.nodup_append]
          refine ⟨hkn.filter _, by simp, fun a ha b hb e => ?_⟩
          have hb : b = (gi t.ps i).toNat := by simpa using hb
          have := (mem_kidsL.1 (List.mem_filter.1 ha).1).2.1
          omega
      · exact hkn
  · obtain ⟨a1, a2⟩ := rr_leaf h ha h1
    obtain ⟨b1, b2⟩ := rr_leaf h hb h2
    have e : gs t.ns a = gs t.ns b := by
      have e : upd (gs t.ns) t.ps.length ByteArray.empty a = upd (gs t.ns) t.ps.length ByteArray.empty b := e
      rw [upd_ne _ _ (by omega), upd_ne _ _ (by omega)] at e; exact e
    rcases a2 with a2 | ⟨a2, a3⟩
    · rcases b2 with b2 | ⟨b2, b3⟩
      · exact (frT_arb h.te).names a b a1 b1 a2 b2 e
      · subst b2
        exact absurd b3 (by rw [← e]; exact named_size (tleaf_named h.te a1 a2))
    · rcases b2 with b2 | ⟨b2, b3⟩
      · subst a2
        exact absurd a3 (by rw [e]; exact named_size (tleaf_named h.te b1 b2))
      · omega
end
end Go.Proofs.YtcbmbhghmfehpaaGreat
namespace Go.Proofs.YtcbmbhghmfehpaaGreat
/-- The children behind some turns: the way up to f is turned. -/
def rrI (t : Tre) (leaf f z : Nat) : List Nat :=
  if z = t.ps.length then leaf :: (if f = leaf then [] else [(gi t.ps leaf).toNat])
  else if onP t leaf z = true ∧ z ≠ leaf ∧ f ≤ z then (kidsL t.ps z).filter (fun k => !onP t leaf k) ++ (if z = f then [] else [(gi t.ps z).toNat])
  else kidsL t.ps z
structure RrJ (t : Tre) (leaf : Nat) (K : RrS) : Prop where
  on : onP t leaf K.frm = true
  cur : K.cur = gi t.ps K.frm
  hang : K.hang = if K.frm = leaf then t.ps.length else K.frm
  nm : K.fr.nm = (rrF t leaf).nm
  old : K.fr.old = (rrF t leaf).old
  kids : ∀ z, z < t.ps.length + 1 → K.fr.kids z = rrI t leaf K.frm z
section
variable {t : Tre} {leaf : Nat}
end
section
variable {F : Frs} {n : Nat} {rk : Nat → Nat} {P : Nat → Bool}
/-- What pruned leaves is good: inner nodes have no names, kept leaves have good ones. -/
structure PrOk (F : Frs) (n : Nat) (rk : Nat → Nat) (P : Nat → Bool) : Prop where
  inn : ∀ z, z < n → F.kids z ≠ [] → (F.nm z).size = 0
  lf : ∀ z, z < n → F.kids z = [] → P z = true → namedB (F.nm z).data.toList = true
end
section
variable {t : Tre} {leaf : Nat}
theorem rr_inner (h : LeafOk t leaf) {z : Nat} (hz : z < t.ps.length + 1) (hk : (rrF t leaf).kids z ≠ []) : ((rrF t leaf).nm z).size = 0 := by
  by_cases e : z = t.ps.length
  · subst e
    show (upd (gs t.ns) _ _ _).size = 0
    rw [upd_same]; rfl
  · show (upd (gs t.ns) _ _ z).size = 0
    rw [upd_ne _ _ e]
    by_cases c : kidsL t.ps z = []
    · exfalso
      refine hk ?_
      show rrQ t leaf z = []
      unfold rrQ
      rw [if_neg e, c, if_neg]
      rintro ⟨h1, h2⟩
      obtain ⟨k, h3, h4, h5, _⟩ := h.on_kid h1 h2
      have : k ∈ kidsL t.ps z := mem_kidsL.2 ⟨h3, h4, h5⟩
      rw [c] at this; cases this
    · obtain ⟨k, hk⟩ := List.exists_mem_of_ne_nil _ c
      obtain ⟨h3, h4, h5⟩ := mem_kidsL.1 hk
      exact inner_empty h.te h3 h4 h5
theorem rr_names (h : LeafOk t leaf) : ∀ a b, a < t.ps.length + 1 → b < t.ps.length + 1 → ((rrF t leaf).nm a).size ≠ 0 → (rrF t leaf).nm a = (rrF t leaf).nm b → a = b := fun a b ha hb h0 e => by
  have key : ∀ c, c < t.ps.length + 1 → ((rrF t leaf).nm c).size ≠ 0 → (rrF t leaf).kids c = [] := fun c hc hn => by
    by_cases x : (rrF t leaf).kids c = []
    · exact x
    · exact absurd (rr_inner h hc x) hn
  exact (rr_arb h).names a b ha hb (key a ha h0) (key b hb (by rw [← e]; exact h0)) e
end
end Go.Proofs.YtcbmbhghmfehpaaGreat
namespace Go.Proofs.YtcbmbhghmfehpaaGreat
def sp4 : List UInt8 := [40, 41, 44, 59]
def popZ : List (List RT) → List (List RT)
  | Z :: Y :: st => (Y ++ [.node ByteArray.empty Z]) :: st
  | st => st
def addZ (r : RT) : List (List RT) → List (List RT)
  | Z :: st => (Z ++ [r]) :: st
  | [] => []
def firstZ : List (List RT) → RT
  | (r :: _) :: _ => r
  | _ => .node ByteArray.empty []
def pz : Nat → List UInt8 → List (List RT) → Bool → Option RT
  | 0, _, _, _ => none
  | _ + 1, [], _, _ => none
  | f + 1, c :: s, st, dn =>
    if c = 40 then (if dn = true then none else pz f s ([] :: st) false)
    else if c = 41 then (if dn = false ∨ st.length = 1 then none else pz f s (popZ st) true)
    else if c = 44 then (if dn = false ∨ st.length = 1 then none else pz f s st false)
    else if c = 59 then (if dn = false ∨ st.length ≠ 1 ∨ s ≠ [] then none else some (firstZ st))
    else if dn = true then none
    else if Lib.indexAny (c :: s) sp4 < 0 then none
    else pz f ((c :: s).drop (Lib.indexAny (c :: s) sp4).toNat) (addZ (.node ⟨((c :: s).take (Lib.indexAny (c :: s) sp4).toNat).toArray⟩ []) st) true
def paR (s : List UInt8) : Option RT := pz (s.length + 1) s [[]] false
section
variable {F G : Frs} {n m : Nat} {rk : Nat → Nat}
/-- A part of a forest in which nothing has changed. -/
theorem toRF_local (hF : Wf F n rk) (hG : Wf G m rk) : ∀ (d c : Nat), rk c ≤ d → c < n → c < m → (∀ z, subF F rk c z = true → G.kids z = F.kids z ∧ G.nm z = F.nm z) → toRF G rk c = toRF F rk c
  | d, c, hd, hc, hm, hz => by
    obtain ⟨h1, h2⟩ := hz c (subF_self hF hc)
    rw [toRF_eq hF hc, toRF_eq hG hm, h1, h2]
    congr 1
    refine List.map_congr_left fun k hk => ?_
    have hkk := hF.kid c hc k hk
    have hkm := (hG.kid c hm k (by rw [h1]; exact hk)).1
    cases d with
    | zero => omega
    | succ d => exact toRF_local hF hG d k (by omega) hkk.1 hkm fun z hs => hz z (subF_kid hF hc hk hs)
/-- The forest with names of its own: of the kind Arb. -/
def uqF (F : Frs) : Frs := ⟨fun i => ⟨Array.replicate i 0⟩, F.old, F.kids⟩
theorem uq_arb (hF : Wf F n rk) (one : ∀ p q k, p < n → q < n → k ∈ F.kids p → k ∈ F.kids q → p = q) (nd : ∀ i, i < n → (F.kids i).Nodup) : Arb (uqF F) n rk :=
  ⟨⟨fun i hi k hk => hF.kid i hi k hk⟩, one, nd, fun a b _ _ _ _ e => by
    have e : (⟨Array.replicate a 0⟩ : ByteArray) = ⟨Array.replicate b 0⟩ := e
    have := congrArg (fun s : ByteArray => s.data.size) e
    simpa using this⟩
theorem uq_sub (hF : Wf F n rk) {c : Nat} (hc : c < n) (z : Nat) : subF (uqF F) rk c z = subF F rk c z :=
  sub_cong (G := uqF F) hF ⟨fun i hi k hk => hF.kid i hi k hk⟩ hc (Nat.le_refl _) (fun _ _ => rfl) z
theorem uq_nodes (hF : Wf F n rk) : ∀ (d c : Nat), rk c ≤ d → c < n → nodesF (uqF F) rk c = nodesF F rk c
  | d, c, hd, hc => by
    have hU : Wf (uqF F) n rk := ⟨fun i hi k hk => hF.kid i hi k hk⟩
    rw [nodesF_eq hF hc, nodesF_eq hU hc]
    congr 1
    refine flatMap_congr' fun k hk => ?_
    have hkk := hF.kid c hc k hk
    cases d with
    | zero => omega
    | succ d => exact uq_nodes hF d k (by omega) hkk.1
theorem one_kids (hF : Wf F n rk) (one : ∀ p q k, p < n → q < n → k ∈ F.kids p → k ∈ F.kids q → p = q) (nd : ∀ i, i < n → (F.kids i).Nodup) {R : Nat} (hR : ∀ i, i < n → rk i ≤ R) {i x y j : Nat} (hi : i < n) (hx : x ∈ F.kids i) (hy : y ∈ F.kids i) (h1 : subF F rk x j = true) (h2 : subF F rk y j = true) : x = y :=
  sub_kids (uq_arb hF one nd) hR hi hx hy (by rw [uq_sub hF (hF.kid i hi x hx).1]; exact h1) (by rw [uq_sub hF (hF.kid i hi y hy).1]; exact h2)
theorem one_nodes (hF : Wf F n rk) (one : ∀ p q k, p < n → q < n → k ∈ F.kids p → k ∈ F.kids q → p = q) (nd : ∀ i, i < n → (F.kids i).Nodup) {R : Nat} (hR : ∀ i, i < n → rk i ≤ R) {i : Nat} (hi : i < n) : (nodesF F rk i).Nodup := by
  rw [← uq_nodes hF (rk i) i (Nat.le_refl _) hi]
  exact nodesF_nodup (uq_arb hF one nd) hR hi (Nat.le_refl _)
end
def rkN (z : Nat) : Nat := 2000 - z
/-- The open nodes, innermost first, against the stack: the last child of each but the innermost is the next. -/
def ZipAt (F : Frs) : Option Nat → List Nat → List (List RT) → Prop
  | nx, o :: os, Z :: st => (F.nm o).size = 0 ∧ (∃ ks, F.kids o = ks ++ nx.toList ∧ ks.map (toRF F rkN) = Z) ∧ ZipAt F (some o) os st
  | _, [], [] => True
  | _, _, _ => False
structure PzF (F : Frs) (n : Nat) (op : List Nat) (st : List (List RT)) : Prop where
  big : n ≤ 2000
  kid : ∀ i, i < n → ∀ k ∈ F.kids i, i < k ∧ k < n
  one : ∀ p q k, p < n → q < n → k ∈ F.kids p → k ∈ F.kids q → p = q
  nd : ∀ i, i < n → (F.kids i).Nodup
  zip : ZipAt F none op st
  opn : ∀ o ∈ op, o < n
  ne : op ≠ []
section
variable {F : Frs} {n : Nat} {op : List Nat} {st : List (List RT)}
theorem PzF.wf (h : PzF F n op st) : Wf F n rkN := ⟨fun i hi k hk => by obtain ⟨h1, h2⟩ := h.kid i hi k hk; have := h.big; exact ⟨h2, by unfold rkN; omega⟩⟩
theorem rkN_le (i : Nat) : rkN i ≤ 2000 := Nat.sub_le _ _
theorem ZipAt.len {F : Frs} : ∀ {nx : Option Nat} {op : List Nat} {st : List (List RT)}, ZipAt F nx op st → op.length = st.length
  | _, [], [], _ => rfl
  | _, _ :: os, _ :: st, h => by rw [List.length_cons, List.length_cons, h.2.2.len]
  | _, [], _ :: _, h => h.elim
  | _, _ :: _, [], h => h.elim
/-- What the new forest is: node n is the last child of o. -/
def addF (F : Frs) (n o : Nat) (nm : ByteArray) : Frs := ⟨upd F.nm n nm, upd F.old n 0, upd (upd F.kids n []) o (F.kids o ++ [n])⟩
theorem addF_kids_o {F : Frs} {n o : Nat} {nm : ByteArray} : (addF F n o nm).kids o = F.kids o ++ [n] := upd_same _ _ _
theorem addF_kids_n {F : Frs} {n o : Nat} {nm : ByteArray} (h : o < n) : (addF F n o nm).kids n = [] := by
  show upd _ o _ n = []
  rw [upd_ne _ _ (by omega), upd_same]
theorem addF_kids {F : Frs} {n o : Nat} {nm : ByteArray} {z : Nat} (h : z ≠ o) (h2 : z ≠ n) : (addF F n o nm).kids z = F.kids z := by
  show upd _ o _ z = _
  rw [upd_ne _ _ h, upd_ne _ _ h2]
theorem addF_nm {F : Frs} {n o : Nat} {nm : ByteArray} {z : Nat} (h2 : z ≠ n) : (addF F n o nm).nm z = F.nm z := upd_ne _ _ h2
theorem addF_fwd {F : Frs} {n o : Nat} {nm : ByteArray} (hk : ∀ i, i < n → ∀ k ∈ F.kids i, i < k ∧ k < n) (ho : o < n) {i k : Nat} (hi : i < n + 1) (hm : k ∈ (addF F n o nm).kids i) : (i < n ∧ k ∈ F.kids i) ∨ (i = o ∧ k = n) := by
  by_cases e : i = o
  · subst e
    rw [addF_kids_o] at hm
    rcases List.mem_append.1 hm with h1 | h1
    · exact .inl ⟨ho, h1⟩
    · exact .inr ⟨rfl, by simpa using h1⟩
  · by_cases e2 : i = n
    · subst e2; rw [addF_kids_n ho] at hm; cases hm
    · rw [addF_kids e e2] at hm; exact .inl ⟨by omega, hm⟩
theorem addF_wf (h : PzF F n op st) {o : Nat} (ho : o < n) (nm : ByteArray) (hb : n < 2000) : Wf (addF F n o nm) (n + 1) rkN := ⟨fun i hi k hm => by
  unfold rkN
  rcases addF_fwd h.kid ho hi hm with ⟨h1, h2⟩ | ⟨h1, h2⟩
  · have := h.kid i h1 k h2; omega
  · omega⟩
/-- Closed parts stay. -/
theorem addF_part (h : PzF F n op st) {o : Nat} (ho : o < n) (nm : ByteArray) (hb : n < 2000) {c : Nat} (hc : c < n) (hs : subF F rkN c o = false) : toRF (addF F n o nm) rkN c = toRF F rkN c :=
  toRF_local h.wf (addF_wf h ho nm hb) _ c (Nat.le_refl _) hc (by omega) fun z hz => by
    have hzn := subF_lt h.wf hc (Nat.le_refl _) hz
    have hne : z ≠ o := fun e => by rw [e, hs] at hz; cases hz
    exact ⟨addF_kids hne (by omega), addF_nm (by omega)⟩
theorem addF_zip (h : PzF F n op st) {o : Nat} (ho : o < n) (nm : ByteArray) (hb : n < 2000) : ∀ {y : Nat} {os : List Nat} {zs : List (List RT)}, (∀ p ∈ os, p < n) → y < n → subF F rkN y o = true → ZipAt F (some y) os zs → ZipAt (addF F n o nm) (some y) os zs
  | _, [], [], _, _, _, _ => trivial
  | y, p :: os, Z :: zs, hp, hy, hs, hz => by
    obtain ⟨h1, ⟨ks, h2, h3⟩, h4⟩ := hz
    have hpn := hp p (by simp)
    have hyk : y ∈ F.kids p := by rw [h2]; simp
    have hpy := (h.kid p hpn y hyk).1
    have hso := subF_kid h.wf hpn hyk hs
    have hne : p ≠ o := fun e => by
      subst e
      have := subD_rank h.wf hy hs
      have hb2 := h.big
      unfold rkN at this
      omega
    refine ⟨by rw [addF_nm (by omega)]; exact h1, ⟨ks, by rw [addF_kids hne (by omega)]; exact h2, ?_⟩, addF_zip h ho nm hb (fun q hq => hp q (by simp [hq])) hpn hso h4⟩
    rw [← h3]
    refine List.map_congr_left fun c hc => ?_
    have hck : c ∈ F.kids p := by rw [h2]; simp [hc]
    have hcn := (h.kid p hpn c hck).2
    refine addF_part h ho nm hb hcn ?_
    cases hsc : subF F rkN c o with
    | false => rfl
    | true =>
      exfalso
      have e := one_kids h.wf h.one h.nd (fun i _ => rkN_le i) hpn hck hyk hsc hs
      subst e
      have hnd := h.nd p hpn
      rw [h2] at hnd
      have := (List.nodup_append.1 hnd).2.2 c hc c (by simp)
      exact this rfl
  | _, [], _ :: _, _, _, _, hz => hz.elim
  | _, _ :: _, [], _, _, _, hz => hz.elim
end
section
variable {F : Frs} {n : Nat} {o : Nat} {os : List Nat} {Z : List RT} {st : List (List RT)}
theorem PzF.on (h : PzF F n (o :: os) st) : o < n := h.opn o (by simp)
theorem PzF.size (h : PzF F n (o :: os) (Z :: st)) : (F.nm o).size = 0 ∧ (F.kids o).map (toRF F rkN) = Z := by
  obtain ⟨h1, ⟨ks, h2, h3⟩, _⟩ := h.zip
  refine ⟨h1, ?_⟩
  rw [h2]; simpa using h3
theorem addF_base (h : PzF F n (o :: os) (Z :: st)) (nm : ByteArray) (hb : n < 2000) :
    (∀ i, i < n + 1 → ∀ k ∈ (addF F n o nm).kids i, i < k ∧ k < n + 1) ∧ (∀ p q k, p < n + 1 → q < n + 1 → k ∈ (addF F n o nm).kids p → k ∈ (addF F n o nm).kids q → p = q) ∧ (∀ i, i < n + 1 → ((addF F n o nm).kids i).Nodup) ∧
    ZipAt (addF F n o nm) (some o) os st ∧ (∀ c ∈ F.kids o, toRF (addF F n o nm) rkN c = toRF F rkN c) ∧ toRF (addF F n o nm) rkN n = .node nm [] := by
  have ho := h.on
  refine ⟨fun i hi k hk => ?_, fun p q k hp hq h1 h2 => ?_, fun i hi => ?_, addF_zip h ho nm hb (fun p hp => h.opn p (by simp [hp])) ho (subF_self h.wf ho) h.zip.2.2, fun c hc => ?_, ?_⟩
  · rcases addF_fwd h.kid ho hi hk with ⟨h1, h2⟩ | ⟨h1, h2⟩
    · have := h.kid i h1 k h2; omega
    · omega
  · rcases addF_fwd h.kid ho hp h1 with ⟨a1, a2⟩ | ⟨a1, a2⟩
    · rcases addF_fwd h.kid ho hq h2 with ⟨b1, b2⟩ | ⟨b1, b2⟩
      · exact h.one p q k a1 b1 a2 b2
      · have := (h.kid p a1 k a2).2; omega
    · rcases addF_fwd h.kid ho hq h2 with ⟨b1, b2⟩ | ⟨b1, b2⟩
      · have := (h.kid q b1 k b2).2; omega
      · omega
  · by_cases e : i = o
    · subst e
      rw [addF_kids_o, List.nodup_append]
      refine ⟨h.nd i ho, by simp, fun a ha b hb e => ?_⟩
      have hb : b = n := by simpa using hb
      have := (h.kid i ho a ha).2; omega
    · by_cases e2 : i = n
      · subst e2; rw [addF_kids_n ho]; exact List.nodup_nil
      · rw [addF_kids e e2]; exact h.nd i (by omega)
  · have hcn := h.kid o ho c hc
    refine addF_part h ho nm hb hcn.2 ?_
    cases hs : subF F rkN c o with
    | false => rfl
    | true =>
      have := subD_rank h.wf hcn.2 hs
      have hb2 := h.big
      unfold rkN at this
      omega
  · rw [toRF_eq (addF_wf h ho nm hb) (Nat.lt_succ_self n), addF_kids_n ho]
    show RT.node (upd F.nm n nm n) [] = _
    rw [upd_same]
/-- A leaf is read. -/
theorem PzF.leaf (h : PzF F n (o :: os) (Z :: st)) (nm : ByteArray) (hb : n < 2000) : PzF (addF F n o nm) (n + 1) (o :: os) ((Z ++ [.node nm []]) :: st) := by
  obtain ⟨a1, a2, a3, a4, a5, a6⟩ := addF_base h nm hb
  have ho := h.on
  refine ⟨by omega, a1, a2, a3, ⟨by rw [addF_nm (by omega)]; exact h.size.1, ⟨_, (List.append_nil _).symm, ?_⟩, a4⟩, fun p hp => by have := h.opn p hp; omega, by simp⟩
  rw [addF_kids_o, List.map_append, List.map_cons, List.map_nil, a6]
  congr 1
  rw [← h.size.2]
  exact List.map_congr_left a5
/-- A node is opened. -/
theorem PzF.open (h : PzF F n (o :: os) (Z :: st)) (hb : n < 2000) : PzF (addF F n o ByteArray.empty) (n + 1) (n :: o :: os) ([] :: Z :: st) := by
  obtain ⟨a1, a2, a3, a4, a5, a6⟩ := addF_base h ByteArray.empty hb
  have ho := h.on
  refine ⟨by omega, a1, a2, a3, ⟨?_, ⟨[], by rw [addF_kids_n ho]; rfl, rfl⟩, by rw [addF_nm (by omega)]; exact h.size.1, ⟨F.kids o, addF_kids_o, ?_⟩, a4⟩, fun p hp => ?_, by simp⟩
  · show (upd F.nm n ByteArray.empty n).size = 0
    rw [upd_same]; rfl
  · rw [← h.size.2]
    exact List.map_congr_left a5
  · rcases List.mem_cons.1 hp with e | e
    · omega
    · have := h.opn p e; omega
/-- A node is closed. -/
theorem PzF.pop {q : Nat} {Y : List RT} (h : PzF F n (o :: q :: os) (Z :: Y :: st)) : PzF F n (q :: os) ((Y ++ [.node ByteArray.empty Z]) :: st) := by
  obtain ⟨h1, ⟨ks, h2, h3⟩, h4, ⟨ks2, h5, h6⟩, h7⟩ := h.zip
  have ho := h.on
  refine ⟨h.big, h.kid, h.one, h.nd, ⟨h4, ⟨ks2 ++ [o], by rw [h5]; simp, ?_⟩, h7⟩, fun p hp => h.opn p (by simp at hp ⊢; rcases hp with e | e <;> simp [e]), by simp⟩
  rw [List.map_append, h6, List.map_cons, List.map_nil, toRF_eq h.wf ho]
  have hn : F.nm o = ByteArray.empty := ByteArray.ext (Array.eq_empty_of_size_eq_zero h1)
  rw [hn, h.size.2]
/-- All is read. -/
theorem PzF.done {r : RT} {Y : List RT} (h : PzF F n [o] [r :: Y]) : ∃ c ks, F.kids o = c :: ks ∧ c < n ∧ treeF F rkN c = flat r := by
  obtain ⟨_, h2⟩ := h.size
  have ho := h.on
  cases hk : F.kids o with
  | nil => rw [hk] at h2; cases h2
  | cons c ks =>
    rw [hk, List.map_cons] at h2
    injection h2 with h2 h3
    have hcn := (h.kid o ho c (by rw [hk]; simp)).2
    exact ⟨c, ks, rfl, hcn, by rw [treeF_flat2 h.wf hcn (one_nodes h.wf h.one h.nd (fun i _ => rkN_le i) hcn), h2]⟩
theorem PzF.len (h : PzF F n (o :: os) (Z :: st)) : (o :: os).length = st.length + 1 := by rw [h.zip.len]; rfl
end
end Go.Proofs.YtcbmbhghmfehpaaGreat
namespace Go.Proofs
open Go.Shelf
def Tryz.bldG_ren : Go.Shelf.Ren := ⟨fun | 169 => 177 | n => n, fun | 70 => 188 | 9 => 9 | 0 => 0 | 72 => 190 | 37 => 55 | 127 => 230 | 3 => 3 | 5 => 5 | n => n, fun | n => n⟩
theorem Tryz.bldG : Go.Proofs.Lays.n169 Tryz.prog Tryz.bldG_ren := {
  mixed := by kernel_rfl
  f169 := Tryz.func177.trans (congrArg some (by kernel_rfl))
  t0 := Tryz.underlying0
  a0 := Tryz.isAgg0
  z0 := Tryz.sizeOf0
  v0 := Tryz.zeroValue0
  t3 := Tryz.underlying3
  a3 := Tryz.isAgg3
  z3 := Tryz.sizeOf3
  v3 := Tryz.zeroValue3
  t9 := Tryz.underlying9
  a9 := Tryz.isAgg9
  z9 := Tryz.sizeOf9
  v9 := Tryz.zeroValue9
  t37 := Tryz.underlying55
  a37 := Tryz.isAgg55
  z37 := Tryz.sizeOf55
  v37 := Tryz.zeroValue55
  t70 := Tryz.underlying188
  a70 := Tryz.isAgg188
  z70 := Tryz.sizeOf188
  v70 := Tryz.zeroValue188
  t72 := Tryz.underlying190
  a72 := Tryz.isAgg190
  z72 := Tryz.sizeOf190
  v72 := Tryz.zeroValue190
  t127 := Tryz.underlying230
  a127 := Tryz.isAgg230
  z127 := Tryz.sizeOf230
  v127 := Tryz.zeroValue230 }
end Go.Proofs
