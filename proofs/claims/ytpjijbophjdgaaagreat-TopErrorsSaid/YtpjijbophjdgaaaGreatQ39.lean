/- The contract of phylotree.Print. The contract of phylotree.Restrict. What Parse answers. The turned forest: plain. SharederrorClades, plain: the groups of the nodes have no conflict; their tree is the tree without nodes that have one child. The walk of phylotree.Restrict. The last common ancestor of two nodes, plain. strings.IndexRune: a rune above ASCII is not among the four signs. The turned forest: what the loop gives; what pruned leaves of it. Plain. Valid trees and their texts, plain: what the statements on texts, equal trees and canonical trees say. The walk of phylotree.Reroot. SharederrorClades, plain: Restrict keeps the whole tree, Consistent finds every group. The parts of the rerooted tree, plain: which sets of leaves they have. The turns of Reroot in memory. SharederrorClades: what its loops keep in memory. The contract of phylotree.Reroot. Parse: what its loop keeps in memory. Rerooting twice, plain. The example of chapter 31, plain: what its functions answer. The contract of phylotree.Parse. The root of a rerooted tree, plain. -/
import Derived.Test.YtpjijbophjdgaaaGreatQ36
import Derived.Test.YtpjijbophjdgaaaGreatQ19
import Derived.Test.YtpjijbophjdgaaaGreatQ38
import Derived.Test.YtpjijbophjdgaaaGreatQ35
import Derived.Test.YtpjijbophjdgaaaGreatQ9
import Derived.Test.YtpjijbophjdgaaaGreatQ20
import Derived.Test.YtpjijbophjdgaaaGreatQ32
import Derived.Test.YtpjijbophjdgaaaGreatQ2
import Derived.Test.YtpjijbophjdgaaaGreatQ24
import Derived.Test.YtpjijbophjdgaaaGreatQ6
import Derived.Laws.RangeAny
import Derived.WalkMore
import Derived.Shelf.Small.Utf8
import Derived.Shelf.Small.Strs
import Derived.Test.YtpjijbophjdgaaaGreatQ30
import Derived.Test.YtpjijbophjdgaaaGreatQ5
import Derived.Test.YtpjijbophjdgaaaGreatQ26
namespace Go.Proofs.YtpjijbophjdgaaaGreat
open Go.RowKit Go.Deep
theorem nsR_toRF {F : Frs} {n : Nat} {rk : Nat → Nat} (h : Wf F n rk) {i : Nat} (hi : i < n) : nsR (toRF F rk i) = (nodesF F rk i).map F.nm := by
  rw [nsR_sub, subR_toRF h hi (Nat.le_refl _), List.map_map]
  refine List.map_congr_left fun z hz => ?_
  exact toRF_nm h (subF_lt h hi (Nat.le_refl _) ((mem_nodesF h hi (Nat.le_refl _)).1 hz))
end Go.Proofs.YtpjijbophjdgaaaGreat
namespace Go.Proofs.YtpjijbophjdgaaaGreat
open Go.RowKit Go.Deep
end Go.Proofs.YtpjijbophjdgaaaGreat
namespace Go.Proofs.YtpjijbophjdgaaaGreat
end Go.Proofs.YtpjijbophjdgaaaGreat
namespace Go.Proofs.YtpjijbophjdgaaaGreat
def onP (t : Tre) (leaf z : Nat) : Bool := hitB t.ps z leaf
def rrQ (t : Tre) (leaf z : Nat) : List Nat :=
  if z = t.ps.length then leaf :: (if leaf = 0 then [] else [(gi t.ps leaf).toNat])
  else if onP t leaf z = true ∧ z ≠ leaf then (kidsL t.ps z).filter (fun k => !onP t leaf k) ++ (if z = 0 then [] else [(gi t.ps z).toNat])
  else kidsL t.ps z
def rrF (t : Tre) (leaf : Nat) : Frs := ⟨upd (gs t.ns) t.ps.length ByteArray.empty, upd (fun i => (i : Int)) t.ps.length 0, rrQ t leaf⟩
def rkR (t : Tre) (leaf z : Nat) : Nat := if z = t.ps.length then 3 * t.ps.length + 3 else if onP t leaf z = true ∧ z ≠ leaf then t.ps.length + 1 + z else rkT t z
structure LeafOk (t : Tre) (leaf : Nat) : Prop where
  te : treeErr t = 0
  lt : leaf < t.ps.length
  nm : (gs t.ns leaf).size ≠ 0
section
variable {t : Tre} {leaf : Nat}
theorem LeafOk.ok (h : LeafOk t leaf) : pOkB t.ps = true := (treeErr_zero h.te).2.2.2.1
theorem LeafOk.nokid (h : LeafOk t leaf) : kidsL t.ps leaf = [] := by
  cases hk : kidsL t.ps leaf with
  | nil => rfl
  | cons k l =>
    obtain ⟨h1, h2, h3⟩ := mem_kidsL.1 (show k ∈ kidsL t.ps leaf by rw [hk]; simp)
    exact absurd (inner_empty h.te h1 h2 h3) h.nm
theorem LeafOk.par (h : LeafOk t leaf) {z : Nat} (hz : z < t.ps.length) (h0 : z ≠ 0) : ∃ q : Nat, gi t.ps z = q ∧ q < z := by
  have := pOkB_par h.ok hz (by omega)
  exact ⟨(gi t.ps z).toNat, by omega, by omega⟩
theorem LeafOk.on_self (_h : LeafOk t leaf) : onP t leaf leaf = true := hit_self leaf
theorem LeafOk.on_le (h : LeafOk t leaf) {z : Nat} (hz : onP t leaf z = true) : z ≤ leaf := hit_le h.ok h.lt hz
theorem LeafOk.on_par (h : LeafOk t leaf) {z q : Nat} (hz : onP t leaf z = true) (h0 : z ≠ 0) (hq : gi t.ps z = q) : onP t leaf q = true := by
  have hzl := h.on_le hz
  have hzn : z < t.ps.length := Nat.lt_of_le_of_lt hzl h.lt
  obtain ⟨q', h1, h2⟩ := h.par hzn h0
  obtain rfl : q = q' := by omega
  exact (hit_kid h.ok h.lt).2 (.inr ⟨z, hzn, h2, hq, hz⟩)
theorem LeafOk.on_kid (h : LeafOk t leaf) {z : Nat} (hz : onP t leaf z = true) (hne : z ≠ leaf) : ∃ c, c < t.ps.length ∧ z < c ∧ gi t.ps c = z ∧ onP t leaf c = true := by
  rcases (hit_kid h.ok h.lt).1 hz with e | ⟨c, h1, h2, h3, h4⟩
  · exact absurd e.symm hne
  · exact ⟨c, h1, h2, h3, h4⟩
theorem LeafOk.on_chain (h : LeafOk t leaf) {x y q : Nat} (hx : onP t leaf x = true) (hy : onP t leaf y = true) (hxy : x < y) (hq : gi t.ps y = q) : x ≤ q := by
  have hyn : y < t.ps.length := Nat.lt_of_le_of_lt (h.on_le hy) h.lt
  obtain ⟨q', h1, h2⟩ := h.par hyn (by omega)
  obtain rfl : q = q' := by omega
  have h3 := hit_chain h.ok (Nat.le_of_lt hxy) leaf leaf (Nat.le_refl _) h.lt hx hy
  rw [hit_step h.ok hyn hxy, hq] at h3
  exact hit_le h.ok (show q < _ by omega) h3
theorem LeafOk.on_one (h : LeafOk t leaf) {x y q : Nat} (hx : onP t leaf x = true) (hy : onP t leaf y = true) (hx0 : q < x) (hy0 : q < y) (e1 : gi t.ps x = q) (e2 : gi t.ps y = q) : x = y := by
  rcases Nat.lt_trichotomy x y with c | c | c
  · have := h.on_chain hx hy c e2; omega
  · exact c
  · have := h.on_chain hy hx c e1; omega
theorem rr_mem (h : LeafOk t leaf) {p k : Nat} (hp : p < t.ps.length + 1) (hk : k ∈ (rrF t leaf).kids p) :
    (p = t.ps.length ∧ k = leaf) ∨ (p = t.ps.length ∧ leaf ≠ 0 ∧ gi t.ps leaf = k ∧ k < leaf) ∨ (p < t.ps.length ∧ k < t.ps.length ∧ p < k ∧ gi t.ps k = p ∧ onP t leaf k = false) ∨ (p < t.ps.length ∧ onP t leaf p = true ∧ p ≠ leaf ∧ p ≠ 0 ∧ gi t.ps p = k ∧ k < p) := by
  have hk : k ∈ rrQ t leaf p := hk
  unfold rrQ at hk
  split at hk
  · rename_i e
    rcases List.mem_cons.1 hk with e2 | e2
    · exact .inl ⟨e, e2⟩
    · split at e2
      · cases e2
      · rename_i h0
        have e2 : k = (gi t.ps leaf).toNat := by simpa using e2
        obtain ⟨q, h1, h2⟩ := h.par h.lt h0
        exact .inr (.inl ⟨e, h0, by omega, by omega⟩)
  · rename_i e
    split at hk
    · rename_i hz
      rcases List.mem_append.1 hk with h1 | h1
      · obtain ⟨h1, h2⟩ := List.mem_filter.1 h1
        obtain ⟨h3, h4, h5⟩ := mem_kidsL.1 h1
        exact .inr (.inr (.inl ⟨by omega, h3, h4, h5, by simpa using h2⟩))
      · split at h1
        · cases h1
        · rename_i h0
          have h1 : k = (gi t.ps p).toNat := by simpa using h1
          obtain ⟨q, h2, h3⟩ := h.par (z := p) (by omega) h0
          exact .inr (.inr (.inr ⟨by omega, hz.1, hz.2, h0, by omega, by omega⟩))
    · rename_i hz
      obtain ⟨h3, h4, h5⟩ := mem_kidsL.1 hk
      refine .inr (.inr (.inl ⟨by omega, h3, h4, h5, ?_⟩))
      cases hc : onP t leaf k with
      | false => rfl
      | true =>
        have := h.on_par hc (by omega) h5
        have : p = leaf := by
          by_cases c : p = leaf
          · exact c
          · exact absurd ⟨this, c⟩ hz
        rw [this, h.nokid] at hk; cases hk
theorem rk_on (_h : LeafOk t leaf) {z : Nat} (hz : z < t.ps.length) (ho : onP t leaf z = true) (hne : z ≠ leaf) : rkR t leaf z = t.ps.length + 1 + z := by
  unfold rkR; rw [if_neg (by omega), if_pos ⟨ho, hne⟩]
theorem rk_off {z : Nat} (hz : z < t.ps.length) (ho : onP t leaf z = false ∨ z = leaf) : rkR t leaf z = t.ps.length - z := by
  unfold rkR; rw [if_neg (by omega), if_neg]
  · rfl
  · rintro ⟨h1, h2⟩
    rcases ho with e | e
    · rw [e] at h1; cases h1
    · exact h2 e
theorem rr_leaf (h : LeafOk t leaf) {z : Nat} (hz : z < t.ps.length + 1) (hk : (rrF t leaf).kids z = []) : z < t.ps.length ∧ (kidsL t.ps z = [] ∨ (z = 0 ∧ (gs t.ns 0).size = 0)) := by
  have hk : rrQ t leaf z = [] := hk
  unfold rrQ at hk
  split at hk
  · cases hk
  · rename_i e
    refine ⟨by omega, ?_⟩
    split at hk
    · rename_i hc
      obtain ⟨c, h1, h2, h3, _⟩ := h.on_kid hc.1 hc.2
      by_cases h0 : z = 0
      · subst h0; exact .inr ⟨rfl, inner_empty h.te h1 h2 h3⟩
      · rw [if_neg h0] at hk
        simp at hk
    · exact .inl hk
theorem tleaf_named (h : treeErr t = 0) {z : Nat} (hz : z < t.ps.length) (hk : kidsL t.ps z = []) : namedB (gs t.ns z).data.toList = true := by
  obtain ⟨_, _, _, hok, _⟩ := treeErr_zero h
  refine (leaf_named h hz ?_).1
  cases hin : isIn t.ps z with
  | false => rfl
  | true => exact absurd hk ((kids_isIn hok z).2 hin)
theorem rr_arb (h : LeafOk t leaf) : Arb (rrF t leaf) (t.ps.length + 1) (rkR t leaf) := by
  have hlt := h.lt
  refine ⟨⟨fun p hp k hk => ?_⟩, fun p q k hp hq h1 h2 => ?_, fun i hi => ?_, fun a b ha hb h1 h2 e => ?_⟩
  · rcases rr_mem h hp hk with ⟨rfl, rfl⟩ | ⟨rfl, h0, e, hlt2⟩ | ⟨h1, h2, h3, e, ho⟩ | ⟨h1, ho, hne, h0, e, hlt2⟩
    · refine ⟨by omega, ?_⟩
      rw [rk_off h.lt (.inr rfl)]
      unfold rkR; rw [if_pos rfl]; omega
    · refine ⟨by omega, ?_⟩
      rw [rk_on h (by omega) (h.on_par h.on_self h0 e) (by omega)]
      unfold rkR; rw [if_pos rfl]; omega
    · refine ⟨by omega, ?_⟩
      rw [rk_off h2 (.inl ho)]
      by_cases c : onP t leaf p = true ∧ p ≠ leaf
      · rw [rk_on h h1 c.1 c.2]; omega
      · have : onP t leaf p = false ∨ p = leaf := by
          cases hc : onP t leaf p with
          | false => exact .inl rfl
          | true => exact .inr (Classical.byContradiction fun x => c ⟨hc, x⟩)
        rw [rk_off h1 this]; omega
    · refine ⟨by omega, ?_⟩
      rw [rk_on h h1 ho hne, rk_on h (by omega) (h.on_par ho h0 e) (by have := h.on_le ho; omega)]; omega
  · have hon : ∀ p, p < t.ps.length + 1 → k ∈ (rrF t leaf).kids p → (onP t leaf k = false ∧ p < t.ps.length ∧ gi t.ps k = p) ∨ (onP t leaf k = true ∧ (p = t.ps.length ∧ (k = leaf ∨ gi t.ps leaf = k ∧ k < leaf) ∨ p < t.ps.length ∧ onP t leaf p = true ∧ p ≠ leaf ∧ gi t.ps p = k ∧ k < p)) := fun p hp hk => by
      rcases rr_mem h hp hk with ⟨rfl, rfl⟩ | ⟨rfl, h0, e, hlt2⟩ | ⟨h1, h2, h3, e, ho⟩ | ⟨h1, ho, hne, h0, e, hlt2⟩
      · exact .inr ⟨h.on_self, .inl ⟨rfl, .inl rfl⟩⟩
      · exact .inr ⟨h.on_par h.on_self h0 e, .inl ⟨rfl, .inr ⟨e, hlt2⟩⟩⟩
      · exact .inl ⟨ho, h1, e⟩
      · exact .inr ⟨h.on_par ho h0 e, .inr ⟨h1, ho, hne, e, hlt2⟩⟩
    rcases hon p hp h1 with ⟨a1, a2, a3⟩ | ⟨a1, a2⟩
    · rcases hon q hq h2 with ⟨_, b2, b3⟩ | ⟨b1, _⟩
      · omega
      · rw [a1] at b1; cases b1
    · rcases hon q hq h2 with ⟨b1, _⟩ | ⟨_, b2⟩
      · rw [a1] at b1; cases b1
      · rcases a2 with ⟨a2, a3⟩ | ⟨a2, a3, a4, a5, a6⟩
        · rcases b2 with ⟨b2, b3⟩ | ⟨b2, b3, b4, b5, b6⟩
          · omega
          · exfalso
            have := h.on_le b3
            rcases a3 with e | ⟨e, e2⟩
            · omega
            · exact b4 (h.on_one b3 h.on_self b6 e2 b5 e)
        · rcases b2 with ⟨b2, b3⟩ | ⟨b2, b3, b4, b5, b6⟩
          · exfalso
            have := h.on_le a3
            rcases b3 with e | ⟨e, e2⟩
            · omega
            · exact a4 (h.on_one a3 h.on_self a6 e2 a5 e)
          · exact h.on_one a3 b3 a6 b6 a5 b5
  · show (rrQ t leaf i).Nodup
    unfold rrQ
    have hkn : (kidsL t.ps i).Nodup := List.Pairwise.filter _ List.nodup_range
    split
    · split
      · simp
      · rename_i h0
        obtain ⟨q, h1, h2⟩ := h.par hlt h0
        simp; omega
    · split
      · split
        · rw [List.append_nil]; exact hkn.filter _
        · rename_i hi2 _ h0
          obtain ⟨q, h1, h2⟩ := h.par (z := i) (by omega) h0
          rw [List.nodup_append]
          refine ⟨hkn.filter _, by simp, fun a ha b hb e => ?_⟩
          have hb : b = (gi t.ps i).toNat := by simpa using hb
          have := (mem_kidsL.1 (List.mem_filter.1 ha).1).2.1
          omega
      · exact hkn
  · obtain ⟨a1, a2⟩ := rr_leaf h ha h1
    obtain ⟨b1, b2⟩ := rr_leaf h hb h2
    have e : gs t.ns a = gs t.ns b := by
      have e : upd (gs t.ns) t.ps.length ByteArray.empty a = upd (gs t.ns) t.ps.length ByteArray.empty b := e
      rw [upd_ne _ _ (by omega), upd_ne _ _ (by omega)] at e; exact e
    rcases a2 with a2 | ⟨a2, a3⟩
    · rcases b2 with b2 | ⟨b2, b3⟩
      · exact (frT_arb h.te).names a b a1 b1 a2 b2 e
      · subst b2
        exact absurd b3 (by rw [← e]; exact named_size (tleaf_named h.te a1 a2))
    · rcases b2 with b2 | ⟨b2, b3⟩
      · subst a2
        exact absurd a3 (by rw [e]; exact named_size (tleaf_named h.te b1 b2))
      · omega
end
end Go.Proofs.YtpjijbophjdgaaaGreat
namespace Go.Proofs.YtpjijbophjdgaaaGreat
theorem srcOk_of {l : List Int} (h : l.Pairwise (· < ·)) (h0 : ∀ x ∈ l, 0 ≤ x ∧ x < 32) (hn : l ≠ []) : srcOk l = true := by
  unfold srcOk
  rw [Bool.and_eq_true, Bool.not_eq_true', decide_eq_true_eq]
  refine ⟨?_, List.length_pos_iff.2 hn⟩
  cases hb : (List.range l.length).any (srcBad l) with
  | false => rfl
  | true =>
    obtain ⟨k, hk, e⟩ := List.any_eq_true.1 hb
    have hk := List.mem_range.1 hk
    unfold srcBad at e
    rw [Bool.or_eq_true, Bool.or_eq_true, Bool.and_eq_true, decide_eq_true_eq, decide_eq_true_eq, decide_eq_true_eq, decide_eq_true_eq] at e
    have h1 := h0 _ (gi_mem hk)
    rcases e with (e | e) | ⟨e1, e2⟩
    · omega
    · omega
    · have := List.pairwise_iff_getElem.1 h (k - 1) k (by omega) hk (by omega)
      have g1 : gi l k = l[k] := by simp [gi, hk]
      have g2 : gi l (k - 1) = l[k - 1] := by simp [gi, show k - 1 < l.length by omega]
      omega
section
variable {t : Tre}
end
section
variable {t : Tre}
end
end Go.Proofs.YtpjijbophjdgaaaGreat
namespace Go.Proofs.YtpjijbophjdgaaaGreat
open Go.RowKit Go.Deep
end Go.Proofs.YtpjijbophjdgaaaGreat
namespace Go.Proofs.YtpjijbophjdgaaaGreat
section
variable {ps : List Int}
end
end Go.Proofs.YtpjijbophjdgaaaGreat
namespace Go.Proofs.YtpjijbophjdgaaaGreat
open Go.RowKit Go.Deep
end Go.Proofs.YtpjijbophjdgaaaGreat
namespace Go.Proofs.YtpjijbophjdgaaaGreat
section
variable {t : Tre} {leaf : Nat}
end
section
variable {F : Frs} {n : Nat} {rk : Nat → Nat} {P : Nat → Bool}
end
section
variable {t : Tre} {leaf : Nat}
theorem rr_inner (h : LeafOk t leaf) {z : Nat} (hz : z < t.ps.length + 1) (hk : (rrF t leaf).kids z ≠ []) : ((rrF t leaf).nm z).size = 0 := by
  by_cases e : z = t.ps.length
  · subst e
    show (upd (gs t.ns) _ _ _).size = 0
    rw [upd_same]; rfl
  · show (upd (gs t.ns) _ _ z).size = 0
    rw [upd_ne _ _ e]
    by_cases c : kidsL t.ps z = []
    · exfalso
      refine hk ?_
      show rrQ t leaf z = []
      unfold rrQ
      rw [if_neg e, c, if_neg]
      rintro ⟨h1, h2⟩
      obtain ⟨k, h3, h4, h5, _⟩ := h.on_kid h1 h2
      have : k ∈ kidsL t.ps z := mem_kidsL.2 ⟨h3, h4, h5⟩
      rw [c] at this; cases this
    · obtain ⟨k, hk⟩ := List.exists_mem_of_ne_nil _ c
      obtain ⟨h3, h4, h5⟩ := mem_kidsL.1 hk
      exact inner_empty h.te h3 h4 h5
theorem rr_names (h : LeafOk t leaf) : ∀ a b, a < t.ps.length + 1 → b < t.ps.length + 1 → ((rrF t leaf).nm a).size ≠ 0 → (rrF t leaf).nm a = (rrF t leaf).nm b → a = b := fun a b ha hb h0 e => by
  have key : ∀ c, c < t.ps.length + 1 → ((rrF t leaf).nm c).size ≠ 0 → (rrF t leaf).kids c = [] := fun c hc hn => by
    by_cases x : (rrF t leaf).kids c = []
    · exact x
    · exact absurd (rr_inner h hc x) hn
  exact (rr_arb h).names a b ha hb (key a ha h0) (key b hb (by rw [← e]; exact h0)) e
end
end Go.Proofs.YtpjijbophjdgaaaGreat
namespace Go.Proofs.YtpjijbophjdgaaaGreat
section
variable {t : Tre}
theorem hit_all0 (h : treeErr t = 0) : ∀ (d j : Nat), j ≤ d → j < t.ps.length → hitB t.ps 0 j = true
  | d, j, hd, hj => by
    by_cases h0 : j = 0
    · subst h0; exact hit_self 0
    · obtain ⟨_, _, _, hok, _⟩ := treeErr_zero h
      have hp := pOkB_par hok hj (by omega)
      rw [hit_step hok hj (by omega)]
      cases d with
      | zero => omega
      | succ d => exact hit_all0 h d _ (by omega) (by omega)
theorem nodes_perm (h : treeErr t = 0) : (nodesF (frT t) (rkT t) 0).Perm (List.range t.ps.length) := by
  have h0 := (treeErr_zero h).1
  refine (List.perm_ext_iff_of_nodup (nodesF_nodup (frT_arb h) (fun i _ => rkT_le t i) h0 (Nat.le_refl _)) List.nodup_range).2 fun j => ?_
  rw [List.mem_range]
  constructor
  · exact mem_nodes_lt h
  · intro hj
    refine (mem_nodesF (frT_arb h).wf h0 (Nat.le_refl _)).2 ?_
    rw [sub_hit h _ 0 j (Nat.le_refl _) h0 hj]
    exact hit_all0 h j j (Nat.le_refl _) hj
theorem leaf_one31 {nm : ByteArray} (h : nm.size ≠ 0) : leafR (.node nm []) = [nm] := by
  unfold leafR
  rw [nsR, nsRs]
  exact List.filter_eq_self.2 fun x hx => decide_eq_true (by rw [List.mem_singleton.1 hx]; exact h)
theorem leaf_head : ∀ (r : RT), (∀ s ∈ subR r, s.kids ≠ [] → s.nm.size = 0) → (∀ s ∈ subR r, s.kids = [] → s.nm.size ≠ 0) → ∃ l, leafR r = firstR r :: l
  | .node nm [], _, h2 => ⟨[], by
    have h := h2 (.node nm []) (by rw [subR]; exact List.mem_cons_self) rfl
    rw [leaf_one31 (nm := nm) h, firstR]⟩
  | .node nm (k :: ks), h1, h2 => by
    have h0 : nm.size = 0 := h1 (.node nm (k :: ks)) (by rw [subR]; exact List.mem_cons_self) (by simp [RT.kids])
    have hk : ∀ s ∈ subR k, s ∈ subR (.node nm (k :: ks)) := fun s hs => by rw [subR, subRs]; simp [hs]
    obtain ⟨l, hl⟩ := leaf_head k (fun s hs => h1 s (hk s hs)) (fun s hs => h2 s (hk s hs))
    rw [leafR_node h0, List.flatMap_cons, hl, firstR]
    exact ⟨_, rfl⟩
theorem GoodR.head {r : RT} (h : GoodR r) : ∃ l, leafR r = firstR r :: l := leaf_head r h.inn fun s hs hk => named_size (h.lf s hs hk)
end
end Go.Proofs.YtpjijbophjdgaaaGreat
namespace Go.Proofs.YtpjijbophjdgaaaGreat
open Go.RowKit Go.Deep
end Go.Proofs.YtpjijbophjdgaaaGreat
namespace Go.Proofs.YtpjijbophjdgaaaGreat
theorem leavesL_asc (ns : List ByteArray) : (leavesL ns).Pairwise (· < ·) := by
  unfold leavesL
  rw [List.pairwise_map]
  exact (List.Pairwise.filter _ List.pairwise_lt_range).imp fun h => Int.ofNat_lt.2 h
section
variable {t : Tre}
end
end Go.Proofs.YtpjijbophjdgaaaGreat
namespace Go.Proofs.YtpjijbophjdgaaaGreat
theorem leaf_reach {F : Frs} {n : Nat} {rk : Nat → Nat} (h : Wf F n rk) {z : Nat} (hz : z < n) {x : ByteArray} : x ∈ leafR (toRF F rk z) ↔ ∃ j, j < n ∧ subF F rk z j = true ∧ (F.nm j).size ≠ 0 ∧ x = F.nm j := by
  unfold leafR
  rw [nsR_toRF h hz, List.mem_filter, List.mem_map]
  constructor
  · rintro ⟨⟨j, hj, rfl⟩, h0⟩
    have hs := (mem_nodesF h hz (Nat.le_refl _)).1 hj
    exact ⟨j, subF_lt h hz (Nat.le_refl _) hs, hs, of_decide_eq_true h0, rfl⟩
  · rintro ⟨j, _, hs, h0, rfl⟩
    exact ⟨⟨j, (mem_nodesF h hz (Nat.le_refl _)).2 hs, rfl⟩, decide_eq_true h0⟩
section
variable {t : Tre} {leaf : Nat}
theorem und_iff (h : treeErr t = 0) {z : Nat} (hz : z < t.ps.length) {x : ByteArray} : x ∈ leafR (toRF (frT t) (rkT t) z) ↔ ∃ j, j < t.ps.length ∧ hitB t.ps z j = true ∧ (gs t.ns j).size ≠ 0 ∧ x = gs t.ns j := by
  rw [leaf_reach (frT_arb h).wf hz]
  constructor
  · rintro ⟨j, hj, hs, h0, e⟩
    exact ⟨j, hj, by rw [← sub_hit h _ z j (Nat.le_refl _) hz hj]; exact hs, h0, e⟩
  · rintro ⟨j, hj, hs, h0, e⟩
    exact ⟨j, hj, by rw [sub_hit h _ z j (Nat.le_refl _) hz hj]; exact hs, h0, e⟩
theorem LeafOk.inj (h : LeafOk t leaf) {a b : Nat} (ha : a < t.ps.length) (hb : b < t.ps.length) (h0 : (gs t.ns a).size ≠ 0) (e : gs t.ns a = gs t.ns b) : a = b := by
  have ea : (rrF t leaf).nm a = gs t.ns a := upd_ne _ _ (by omega)
  have eb : (rrF t leaf).nm b = gs t.ns b := upd_ne _ _ (by omega)
  exact rr_names h a b (by omega) (by omega) (by rw [ea]; exact h0) (by rw [ea, eb]; exact e)
end
end Go.Proofs.YtpjijbophjdgaaaGreat
namespace Go.Proofs.YtpjijbophjdgaaaGreat
open Go.RowKit Go.Deep
section
variable {g n fb : Nat} {A : Nat → Nat} {kv : Nat → Value} {F : Frs} {w3 wr w' : World} {f : Int}
end
end Go.Proofs.YtpjijbophjdgaaaGreat
namespace Go.Proofs.YtpjijbophjdgaaaGreat
open Go.RowKit Go.Deep
section
variable {P : Program} {ops : Array Oper} {rest : List Oper} {o : Oper} {a : Act} {Q : Exit → Act → World → Prop}
end
section
variable {w2 wr wx w' : World} {tb : Nat} {pv nv v : Value} {xs : List ByteArray}
end
section
variable {w3 wr wx w' : World} {d a : Value} {gs : List Grp} {svs : List Value} {xs : List Int}
end
end Go.Proofs.YtpjijbophjdgaaaGreat
namespace Go.Proofs.YtpjijbophjdgaaaGreat
open Go.RowKit Go.Deep
end Go.Proofs.YtpjijbophjdgaaaGreat
namespace Go.Proofs.YtpjijbophjdgaaaGreat
open Go.RowKit Go.Deep
section
variable {base : Nat} {s : ByteArray} {R : Option RT} {w0 wr w' : World} {top k n f o : Nat} {b : Bool} {ov : Value} {A : Nat → Nat} {kv : Nat → Value} {F : Frs} {os : List Nat} {Z : List RT} {st : List (List RT)}
end
end Go.Proofs.YtpjijbophjdgaaaGreat
namespace Go.Proofs.YtpjijbophjdgaaaGreat
theorem GoodR.sub {r s : RT} (h : GoodR r) (hs : s ∈ subR r) : GoodR s :=
  ⟨fun q hq => h.inn q (subR_trans r hs hq), fun q hq => h.lf q (subR_trans r hs hq), (leafR_sub hs).nodup h.nd⟩
theorem GoodR.meet {r s : RT} (h : GoodR r) (hs : s ∈ subR r) : ∃ x, x ∈ leafR s := by
  obtain ⟨l, hl⟩ := (h.sub hs).head
  exact ⟨firstR s, by rw [hl]; simp⟩
section
variable {r q : RT} {a b : ByteArray}
end
section
variable {t : Tre} {leaf : Nat}
end
end Go.Proofs.YtpjijbophjdgaaaGreat
namespace Go.Proofs.YtpjijbophjdgaaaGreat
end Go.Proofs.YtpjijbophjdgaaaGreat
namespace Go.Proofs.YtpjijbophjdgaaaGreat
open Go.RowKit Go.Deep
end Go.Proofs.YtpjijbophjdgaaaGreat
namespace Go.Proofs.YtpjijbophjdgaaaGreat
section
variable {t : Tre} {leaf : Nat}
end
end Go.Proofs.YtpjijbophjdgaaaGreat
