/- The helpers of the statements on layer 31: below, find, names, example. strings.IndexAny at the four signs, for strings of any bytes. The parts of a restricted tree, plain: which sets of leaves they have; restricting twice. The example of chapter 31: awake. The contract of phylotree.Same. The statements' bounds on layer 31's trees. PhylotreeTexts, plain. PhylotreeRerooted, plain. PhylotreeRestricted, plain. The splits of a tree: plain. The tree of splits: plain. split.Of: the map of names, the closure that asks it. -/
import Derived.Test.YtpjijbophjdgaaaGreatQ39
import Derived.Test.YtpjijbophjdgaaaGreatQ4
import Derived.Test.YtpjijbophjdgaaaGreatQ5
import Derived.Test.YtpjijbophjdgaaaGreatQ7
import Derived.Test.YtpjijbophjdgaaaGreatQ10
import Derived.Test.YtpjijbophjdgaaaGreatQ20
import Derived.Test.YtpjijbophjdgaaaGreatQ32
import Derived.Test.YtpjijbophjdgaaaGreatQ12
import Derived.Lib.OthersKept
import Derived.Test.YtpjijbophjdgaaaGreatQ15
import Derived.Deep.RegionHeld3
import Derived.Test.YtpjijbophjdgaaaGreatQ28
import Derived.Test.YtpjijbophjdgaaaGreatQ6
import Derived.Test.YtpjijbophjdgaaaGreatQ8
import Derived.Test.YtpjijbophjdgaaaGreatQ33
import Derived.Test.YtpjijbophjdgaaaGreatQ38
import Derived.Test.YtpjijbophjdgaaaGreatQ3
import Derived.Test.YtpjijbophjdgaaaGreatQ9
import Derived.Test.YtpjijbophjdgaaaGreatQ19
import Derived.Test.YtpjijbophjdgaaaGreatQ34
namespace Go.Proofs.YtpjijbophjdgaaaGreat
open Go.RowKit Go.Deep
@[go_sem high] theorem run_max0_4 (w : World) (ts : Array TypeId) (t : TypeId) (k : IntKind) : (Builtin.max_ ts t #[.int k 0, .int k 0, .int k 0, .int k 0]).run Tryz.prog w = .ok (.int k 0) w := by
  simp [Builtin.max_, Builtin.max2]
@[go_sem high] theorem run_max0_5 (w : World) (ts : Array TypeId) (t : TypeId) (k : IntKind) : (Builtin.max_ ts t #[.int k 0, .int k 0, .int k 0, .int k 0, .int k 0]).run Tryz.prog w = .ok (.int k 0) w := by
  simp [Builtin.max_, Builtin.max2]
@[go_sem high] theorem run_max0_6 (w : World) (ts : Array TypeId) (t : TypeId) (k : IntKind) : (Builtin.max_ ts t #[.int k 0, .int k 0, .int k 0, .int k 0, .int k 0, .int k 0]).run Tryz.prog w = .ok (.int k 0) w := by
  simp [Builtin.max_, Builtin.max2]
@[go_sem high] theorem run_max0_7 (w : World) (ts : Array TypeId) (t : TypeId) (k : IntKind) : (Builtin.max_ ts t #[.int k 0, .int k 0, .int k 0, .int k 0, .int k 0, .int k 0, .int k 0]).run Tryz.prog w = .ok (.int k 0) w := by
  simp [Builtin.max_, Builtin.max2]
end Go.Proofs.YtpjijbophjdgaaaGreat
namespace Go.Proofs.YtpjijbophjdgaaaGreat
open Go.RowKit Go.Deep
end Go.Proofs.YtpjijbophjdgaaaGreat
namespace Go.Proofs.YtpjijbophjdgaaaGreat
section
variable {t : Tre} {L : List Int}
end
end Go.Proofs.YtpjijbophjdgaaaGreat
namespace Go.Proofs.YtpjijbophjdgaaaGreat
open Go.RowKit Go.Deep
end Go.Proofs.YtpjijbophjdgaaaGreat
namespace Go.Proofs.YtpjijbophjdgaaaGreat
open Go.RowKit Go.Deep
section
variable {P : Program} {ops : Array Oper} {Q : Exit → Act → World → Prop} {md : Region.Mode} {S : World → Prop} {t : Nat}
end
end Go.Proofs.YtpjijbophjdgaaaGreat
namespace Go.Proofs.YtpjijbophjdgaaaGreat
open Go.RowKit Go.Deep
end Go.Proofs.YtpjijbophjdgaaaGreat
namespace Go.Proofs.YtpjijbophjdgaaaGreat
section
variable {t : Tre}
end
end Go.Proofs.YtpjijbophjdgaaaGreat
namespace Go.Proofs.YtpjijbophjdgaaaGreat
section
variable {t : Tre}
def fdN (ns : List ByteArray) (a : ByteArray) : Int := firstIx (fun j => decide (a = gs ns j)) ns.length
end
section
variable {t : Tre} {la : Nat}
end
end Go.Proofs.YtpjijbophjdgaaaGreat
namespace Go.Proofs.YtpjijbophjdgaaaGreat
section
variable {t : Tre}
theorem sortL_pair (l : List Int) : (sortL l).Pairwise (· ≤ ·) := by
  have h := List.pairwise_mergeSort (le := fun x y : Int => decide (x ≤ y)) (fun a b c h1 h2 => by simp at h1 h2 ⊢; omega) (fun a b => by
    simp only [Bool.or_eq_true, decide_eq_true_eq]; omega) l
  exact h.imp fun h => by simpa using h
theorem nodup_map {α β : Type} {f : α → β} : ∀ {l : List α}, l.Nodup → (∀ x ∈ l, ∀ y ∈ l, f x = f y → x = y) → (l.map f).Nodup
  | [], _, _ => List.nodup_nil
  | a :: l, hn, h => by
    rw [List.map_cons, List.nodup_cons]
    have hn2 := List.nodup_cons.1 hn
    refine ⟨fun hm => ?_, nodup_map hn2.2 fun x hx y hy e => h x (List.mem_cons_of_mem _ hx) y (List.mem_cons_of_mem _ hy) e⟩
    obtain ⟨y, hy, e⟩ := List.mem_map.1 hm
    exact hn2.1 (h y (List.mem_cons_of_mem _ hy) a (List.mem_cons_self ..) e ▸ hy)
theorem lv_leafOk (he : treeErr t = 0) {x : Int} (hx : x ∈ leavesL t.ns) : ∃ j : Nat, x = j ∧ LeafOk t j := by
  obtain ⟨_, _, hl, _, _⟩ := treeErr_zero he
  obtain ⟨j, rfl, h1, h2⟩ := mem_leavesL.1 hx
  exact ⟨j, rfl, he, by omega, h2⟩
end
end Go.Proofs.YtpjijbophjdgaaaGreat
namespace Go.Proofs.YtpjijbophjdgaaaGreat
def lvS (t : Tre) (names : List ByteArray) (k : Nat) : List Int := memK (fun b => (List.range t.ps.length).any fun j => hitB t.ps k j && decide ((gs t.ns j).size ≠ 0) && decide (fdN names (gs t.ns j) = b)) names.length
def splS (n : Nat) (S : List Int) : List Int := if S.contains 0 then complL n S else S
def dupB (names : List ByteArray) : Bool := (List.range names.length).any (seenK names)
def offB (t : Tre) (names : List ByteArray) : Bool := (List.range (leavesL t.ns).length).any fun j => decide (fdN names (gs t.ns (gi (leavesL t.ns) j).toNat) < 0)
def splOErr (t : Tre) (names : List ByteArray) : Int :=
  if treeErr t ≠ 0 then 1 else if 32 < names.length then 4 else if dupB names then 7 else if (leavesL t.ns).length ≠ names.length ∨ offB t names = true then 9 else 0
def rawO (t : Tre) (names : List ByteArray) : List (List Int) := (((List.range t.ps.length).filter (fun k => decide (0 < k))).map fun k => splS names.length (lvS t names k)).filter fun s => decide (splErr names.length s = 0)
def splO (t : Tre) (names : List ByteArray) : List (List Int) := if splOErr t names = 0 then ordX (rawO t names) else []
structure OfOk (t : Tre) (names : List ByteArray) : Prop where
  te : treeErr t = 0
  le : names.length ≤ 32
  nd : ∀ j k, j < k → k < names.length → gs names k ≠ gs names j
  len : (leavesL t.ns).length = names.length
  has : ∀ j, j < t.ps.length → (gs t.ns j).size ≠ 0 → ∃ b : Nat, b < names.length ∧ gs names b = gs t.ns j
theorem fd_ex {names : List ByteArray} {a : ByteArray} : 0 ≤ fdN names a ↔ ∃ b, b < names.length ∧ gs names b = a := by
  constructor
  · intro h
    obtain ⟨k, hk⟩ := Int.eq_ofNat_of_zero_le h
    obtain ⟨h1, h2, _⟩ := firstIx_spec hk
    exact ⟨k, h1, (of_decide_eq_true h2).symm⟩
  · rintro ⟨b, hb, e⟩
    have hany : (List.range names.length).any (fun j => decide (a = gs names j)) = true := List.any_eq_true.2 ⟨b, List.mem_range.2 hb, decide_eq_true e.symm⟩
    rw [← firstIx_any] at hany
    exact of_decide_eq_true hany
theorem nd_inj {names : List ByteArray} (h : ∀ j k, j < k → k < names.length → gs names k ≠ gs names j) {a b : Nat} (ha : a < names.length) (hb : b < names.length) (e : gs names a = gs names b) : a = b := by
  rcases Nat.lt_trichotomy a b with c | c | c
  · exact absurd e.symm (h a b c hb)
  · exact c
  · exact absurd e (h b a c ha)
theorem fd_of {names : List ByteArray} (h : ∀ j k, j < k → k < names.length → gs names k ≠ gs names j) {b : Nat} (hb : b < names.length) : fdN names (gs names b) = (b : Int) := by
  have h1 : 0 ≤ fdN names (gs names b) := fd_ex.2 ⟨b, hb, rfl⟩
  obtain ⟨k, hk⟩ := Int.eq_ofNat_of_zero_le h1
  obtain ⟨h2, h3, _⟩ := firstIx_spec hk
  have h3 := of_decide_eq_true h3
  rw [hk]
  have := nd_inj h h2 hb h3.symm
  rw [this]
theorem dup_iff {names : List ByteArray} : dupB names = false ↔ ∀ j k, j < k → k < names.length → gs names k ≠ gs names j := by
  constructor
  · intro h j k hjk hk e
    have h1 := any_false h hk
    unfold seenK at h1
    have := any_false h1 hjk
    rw [decide_eq_true e.symm] at this; cases this
  · intro h
    refine any_none fun k hk => any_none fun j hj => decide_eq_false fun e => h j k hj hk e.symm
theorem splO_ok {t : Tre} {names : List ByteArray} : splOErr t names = 0 ↔ OfOk t names := by
  unfold splOErr
  constructor
  · intro h
    split at h
    · cases h
    · rename_i h1
      have h1 := Classical.not_not.1 h1
      obtain ⟨_, _, hl, _, _⟩ := treeErr_zero h1
      split at h
      · cases h
      · split at h
        · cases h
        · rename_i h3
          split at h
          · cases h
          · rename_i h4
            have h3 : dupB names = false := by simpa using h3
            have h4a : (leavesL t.ns).length = names.length := Classical.byContradiction fun e => h4 (.inl e)
            have h4b : offB t names = false := by
              cases e : offB t names with
              | false => rfl
              | true => exact absurd (.inr e) h4
            refine ⟨h1, by omega, dup_iff.1 h3, h4a, fun j hj h0 => ?_⟩
            have hm : (j : Int) ∈ leavesL t.ns := mem_leavesL.2 ⟨j, rfl, by omega, h0⟩
            obtain ⟨i, hi, e⟩ := in_gi hm
            have := any_false h4b hi
            rw [e, Int.toNat_natCast] at this
            have := of_decide_eq_false this
            exact fd_ex.1 (by omega)
  · intro h
    obtain ⟨_, _, hl, _, _⟩ := treeErr_zero h.te
    have hle := h.le
    rw [if_neg (fun e => e h.te), if_neg (by omega), dup_iff.2 h.nd, if_neg (by decide), if_neg]
    rintro (e | e)
    · exact e h.len
    · obtain ⟨i, hi, e⟩ := List.any_eq_true.1 e
      have hi := List.mem_range.1 hi
      obtain ⟨j, e1, e2, e3⟩ := mem_leavesL.1 (gi_mem hi)
      have e := of_decide_eq_true e
      rw [e1, Int.toNat_natCast] at e
      have := fd_ex.2 (h.has j (by omega) e3)
      omega
section
variable {t : Tre} {names : List ByteArray}
theorem hit_rootS (h : treeErr t = 0) (k : Nat) (hk : k < t.ps.length) : hitB t.ps 0 k = true := hit_all0 h k k (Nat.le_refl _) hk
theorem of_names (h : OfOk t names) {b : Nat} (hb : b < names.length) : ∃ j, j < t.ps.length ∧ (gs t.ns j).size ≠ 0 ∧ gs t.ns j = gs names b := by
  obtain ⟨_, _, hl, _, _⟩ := treeErr_zero h.te
  have hp : ∀ x ∈ leavesL t.ns, ∃ j : Nat, x = j ∧ LeafOk t j := fun x hx => lv_leafOk h.te hx
  have hnd : ((leavesL t.ns).map fun x => fdN names (gs t.ns x.toNat)).Nodup := by
    refine nodup_map ((leavesL_asc t.ns).imp fun h e => by omega) fun x hx y hy e => ?_
    obtain ⟨j, rfl, hj⟩ := hp x hx
    obtain ⟨k, rfl, hk⟩ := hp y hy
    rw [Int.toNat_natCast, Int.toNat_natCast] at e
    obtain ⟨b1, c1, e1⟩ := h.has j hj.lt hj.nm
    obtain ⟨b2, c2, e2⟩ := h.has k hk.lt hk.nm
    rw [← e1, ← e2, fd_of h.nd c1, fd_of h.nd c2] at e
    have : b1 = b2 := by omega
    subst this
    have := hj.inj hj.lt hk.lt hj.nm (by rw [← e1, ← e2])
    rw [this]
  have hperm := perm_subI (q := allI names.length) hnd (fun x hx => by
    obtain ⟨y, hy, rfl⟩ := List.mem_map.1 hx
    obtain ⟨j, rfl, hj⟩ := hp y hy
    obtain ⟨b1, c1, e1⟩ := h.has j hj.lt hj.nm
    rw [Int.toNat_natCast, ← e1, fd_of h.nd c1]
    exact mem_allI.2 ⟨by omega, by omega⟩) (by rw [allI_len, List.length_map, h.len]; exact Nat.le_refl _)
  have hb' : (b : Int) ∈ (leavesL t.ns).map fun x => fdN names (gs t.ns x.toNat) := hperm.mem_iff.2 (mem_allI.2 ⟨by omega, by omega⟩)
  obtain ⟨y, hy, e⟩ := List.mem_map.1 hb'
  obtain ⟨j, rfl, hj⟩ := hp y hy
  rw [Int.toNat_natCast] at e
  refine ⟨j, hj.lt, hj.nm, ?_⟩
  obtain ⟨b1, c1, e1⟩ := h.has j hj.lt hj.nm
  rw [← e1, fd_of h.nd c1] at e
  have : b1 = b := by omega
  rw [← e1, this]
theorem mem_lvS {k : Nat} {x : Int} : x ∈ lvS t names k ↔ 0 ≤ x ∧ x < (names.length : Int) ∧ ∃ j, j < t.ps.length ∧ hitB t.ps k j = true ∧ (gs t.ns j).size ≠ 0 ∧ fdN names (gs t.ns j) = x := by
  unfold lvS
  rw [mem_memK, List.any_eq_true]
  constructor
  · rintro ⟨h1, h2, j, hj, h3⟩
    simp only [Bool.and_eq_true, decide_eq_true_eq] at h3
    exact ⟨h1, h2, j, List.mem_range.1 hj, h3.1.1, h3.1.2, h3.2⟩
  · rintro ⟨h1, h2, j, hj, h3, h4, h5⟩
    refine ⟨h1, h2, j, List.mem_range.2 hj, ?_⟩
    simp only [Bool.and_eq_true, decide_eq_true_eq]
    exact ⟨⟨h3, h4⟩, h5⟩
theorem lvS_asc (t : Tre) (names : List ByteArray) (k : Nat) : (lvS t names k).Pairwise (· < ·) := memK_asc _ _
theorem lvS_lv (h : OfOk t names) {k : Nat} (hk : k < t.ps.length) : Lv names (toRF (frT t) (rkT t) k) (lvS t names k) := fun y => by
  rw [und_iff h.te hk]
  constructor
  · rintro ⟨j, hj, h1, h2, rfl⟩
    obtain ⟨b, hb, e⟩ := h.has j hj h2
    refine ⟨b, mem_lvS.2 ⟨by omega, by omega, j, hj, h1, h2, ?_⟩, e.symm⟩
    rw [← e, fd_of h.nd hb]
  · rintro ⟨b, hb, rfl⟩
    obtain ⟨_, h1, j, hj, h2, h3, h4⟩ := mem_lvS.1 hb
    obtain ⟨b', hb', e⟩ := h.has j hj h3
    rw [← e, fd_of h.nd hb'] at h4
    refine ⟨j, hj, h2, h3, ?_⟩
    rw [← e]
    congr 1
    omega
theorem lv_inj (hn : ∀ j k, j < k → k < names.length → gs names k ≠ gs names j) {s : RT} {X Y : List Int} (hX : X.Pairwise (· < ·)) (hY : Y.Pairwise (· < ·)) (bX : ∀ x ∈ X, 0 ≤ x ∧ x < (names.length : Int)) (bY : ∀ x ∈ Y, 0 ≤ x ∧ x < (names.length : Int)) (h1 : Lv names s X) (h2 : Lv names s Y) : X = Y := by
  have key : ∀ {X Y : List Int}, (∀ x ∈ X, 0 ≤ x ∧ x < (names.length : Int)) → (∀ x ∈ Y, 0 ≤ x ∧ x < (names.length : Int)) → Lv names s X → Lv names s Y → ∀ x ∈ X, x ∈ Y := fun {X Y} bX bY h1 h2 x hx => by
    obtain ⟨x0, xn⟩ := bX x hx
    obtain ⟨b, rfl⟩ := Int.eq_ofNat_of_zero_le x0
    obtain ⟨b', hb', e⟩ := (h2 (gs names b)).1 ((h1 _).2 ⟨b, hx, rfl⟩)
    have := bY _ hb'
    have := nd_inj hn (a := b) (b := b') (by omega) (by omega) e
    rw [this]; exact hb'
  exact asc_ext hX hY fun x => ⟨key bX bY h1 h2 x, key bY bX h2 h1 x⟩
theorem mem_splO (h : OfOk t names) {s : List Int} : s ∈ splO t names ↔ SplOk names.length s ∧ ∃ q ∈ subR (toR t), ∃ X, X.Pairwise (· < ·) ∧ (∀ x ∈ X, 0 ≤ x ∧ x < (names.length : Int)) ∧ Lv names q X ∧ s = splS names.length X := by
  unfold splO
  rw [if_pos (splO_ok.2 h), mem_ordX]
  unfold rawO
  rw [List.mem_filter, List.mem_map, decide_eq_true_eq, splErr_zero]
  constructor
  · rintro ⟨⟨k, hk, rfl⟩, h2⟩
    have hk := List.mem_range.1 (List.mem_filter.1 hk).1
    refine ⟨h2, toRF (frT t) (rkT t) k, ?_, lvS t names k, lvS_asc _ _ _, fun x hx => by have := mem_lvS.1 hx; exact ⟨this.1, this.2.1⟩, lvS_lv h hk, rfl⟩
    rw [subR_toR h.te]
    refine List.mem_map.2 ⟨k, ?_, rfl⟩
    have h0 := (treeErr_zero h.te).1
    refine (mem_nodesF (frT_arb h.te).wf h0 (Nat.le_refl _)).2 ?_
    rw [sub_hit h.te _ 0 k (Nat.le_refl _) h0 hk]
    exact hit_rootS h.te k hk
  · rintro ⟨h2, q, hq, X, hX, bX, hL, rfl⟩
    refine ⟨?_, h2⟩
    rw [subR_toR h.te] at hq
    obtain ⟨k, hk, rfl⟩ := List.mem_map.1 hq
    have hk := mem_nodes_lt h.te hk
    have e := lv_inj h.nd hX (lvS_asc t names k) bX (fun x hx => by have := mem_lvS.1 hx; exact ⟨this.1, this.2.1⟩) hL (lvS_lv h hk)
    refine ⟨k, List.mem_filter.2 ⟨List.mem_range.2 hk, decide_eq_true ?_⟩, by rw [e]⟩
    rcases Nat.eq_zero_or_pos k with e0 | e0
    · exfalso
      subst e0
      have hall : ∀ b : Nat, b < names.length → (b : Int) ∈ X := fun b hb => by
        rw [e]
        obtain ⟨j, hj, h3, h4⟩ := of_names h hb
        exact mem_lvS.2 ⟨by omega, by omega, j, hj, hit_rootS h.te j hj, h3, by rw [h4, fd_of h.nd hb]⟩
      have h0 := h2.n1
      have h3 : X.contains 0 = true := List.contains_iff_mem.2 (hall 0 (by omega))
      have h4 := h2.len
      have h5 : splS names.length X = [] := by
        unfold splS
        rw [if_pos h3, List.eq_nil_iff_forall_not_mem]
        intro x hx
        obtain ⟨x0, xn, hx⟩ := mem_complL.1 hx
        obtain ⟨b, rfl⟩ := Int.eq_ofNat_of_zero_le x0
        exact hx (hall b (by omega))
      rw [h5] at h4
      simp at h4
    · exact e0
end
end Go.Proofs.YtpjijbophjdgaaaGreat
namespace Go.Proofs.YtpjijbophjdgaaaGreat
structure BldOk (names : List ByteArray) (l : List (List Int)) : Prop where
  pos : 0 < names.length
  le : names.length ≤ 32
  l64 : l.length ≤ 64
  nm : ∀ k, k < names.length → namedB (gs names k).data.toList = true
  nd : ∀ j k, j < k → k < names.length → gs names k ≠ gs names j
  spl : ∀ s ∈ l, SplOk names.length s
  cmp : ∀ i k, i < k → k < l.length → compB (gl l i) (gl l k) = true
theorem gl_in {l : List (List Int)} {k : Nat} (h : k < l.length) : gl l k ∈ l := by simp [gl, h]
theorem in_gl {l : List (List Int)} {x : List Int} (h : x ∈ l) : ∃ k, k < l.length ∧ gl l k = x := by
  obtain ⟨k, hk, e⟩ := List.mem_iff_getElem.1 h
  exact ⟨k, hk, by simp [gl, hk, e]⟩
theorem cptX_len : ∀ l : List (List Int), (cptX l).length ≤ l.length
  | [] => Nat.le_refl _
  | a :: l => by
    rw [cptX]
    have := cptX_len l
    split <;> simp <;> omega
section
variable {names : List ByteArray} {l : List (List Int)}
end
end Go.Proofs.YtpjijbophjdgaaaGreat
namespace Go.Proofs.YtpjijbophjdgaaaGreat
open Go.RowKit Go.Deep
def smK (names : List ByteArray) : Nat → List (ByteArray × Value)
  | 0 => []
  | k + 1 => putS (smK names k) (gs names k) (.bool true)
def inNm (names : List ByteArray) (k : Nat) (s : ByteArray) : Bool := (List.range k).any fun j => decide (gs names j = s)
theorem smK_uniq (names : List ByteArray) : ∀ k, UniqS (smK names k)
  | 0 => List.nodup_nil
  | k + 1 => putS_uniq (smK_uniq names k) _ _
theorem smK_look (names : List ByteArray) (s : ByteArray) : ∀ k, ((smK names k).lookup s).getD (.bool false) = .bool (inNm names k s)
  | 0 => rfl
  | k + 1 => by
    rw [smK, lookup_putS]
    have e : inNm names (k + 1) s = (inNm names k s || decide (gs names k = s)) := by unfold inNm; rw [List.range_succ, List.any_append]; simp
    rw [e]
    by_cases h : s = gs names k
    · rw [if_pos h, decide_eq_true h.symm]; simp
    · rw [if_neg h, smK_look names s k, decide_eq_false (fun q => h q.symm)]; simp
theorem inNm_fd (names : List ByteArray) (s : ByteArray) : inNm names names.length s = !decide (fdN names s < 0) := by
  have h1 : decide (0 ≤ fdN names s) = (List.range names.length).any fun j => decide (s = gs names j) := firstIx_any _ _
  have h2 : inNm names names.length s = (List.range names.length).any fun j => decide (s = gs names j) := by
    unfold inNm
    congr 1
    funext j
    by_cases e : gs names j = s
    · rw [decide_eq_true e, decide_eq_true e.symm]
    · rw [decide_eq_false e, decide_eq_false fun q => e q.symm]
  rw [h2, ← h1]
  by_cases h : fdN names s < 0
  · rw [decide_eq_true h, decide_eq_false (by omega)]; rfl
  · rw [decide_eq_false h, decide_eq_true (by omega)]; rfl
theorem zero_bool (w : World) : (zeroValue 4).run Tryz.prog w = .ok (.bool false) w := by simp [Tryz.zeroValue4]
set_option maxRecDepth 100000 in
set_option maxHeartbeats 1000000 in
theorem of1_t (w : World) (S : Nat → Prop) (b8 bt mb : Nat) (np : Option Addr) (nc : Nat) (ns names : List ByteArray) (k : Nat) (h8 : w.cell? ⟨b8, 0, none⟩ = some (.map (some mb))) (hm : SMap w mb (smK names names.length)) (ht : w.cell? ⟨bt, 1, none⟩ = some (.slice np ns.length nc)) (hN : StrsAt S w (.slice np ns.length nc) ns) (hk : k < ns.length) :
    FnD 82 #[.pointer (some ⟨b8, 0, none⟩), .pointer (some ⟨bt, 0, none⟩)] #[.int .i64 (k : Int)] (.bool (decide (fdN names (gs ns k) < 0))) w := by
  intro m
  show Calls Tryz.prog 82 #[.int .i64 (k : Int), .pointer (some ⟨b8, 0, none⟩), .pointer (some ⟨bt, 0, none⟩)] (w.drewN m) _
  have hd := Up.drewN w m
  obtain ⟨nb, no, rfl, c4⟩ := strs_get hN hk
  have c1 := hd.cell h8
  have c2 := hd.cell ht
  have c4 := hd.cell c4
  have k1 : (0 : Int) ≤ (k : Int) := Int.natCast_nonneg _
  have k2 : (k : Int) < (ns.length : Int) := Int.ofNat_lt.2 hk
  have hlk : ∀ n, (Instr.lookup 96 (.map (some mb)) (.string (gs ns k)) false).run Tryz.prog ((w.drewN m).drewN n) = .ok (.bool (!decide (fdN names (gs ns k) < 0))) ((w.drewN m).drewN n) := fun n => by
    have hm2 : SMap ((w.drewN m).drewN n) mb (smK names names.length) := hm.same rfl
    have h := run_slook (P := Tryz.prog) Tryz.underlying96 Tryz.underlying9 (zero_bool _) hm2 (gs ns k)
    rw [smK_look, inNm_fd] at h
    exact h
  obtain ⟨W, hW⟩ : ∃ W, W = w.drewN m := ⟨_, rfl⟩
  have HW := Lib.hid hW
  rw [← hW] at c1 c2 c4 hlk ⊢
  clear hd h8 hm ht hN hk hW
  generalize gs ns k = s at *
  generalize decide (fdN names s < 0) = b at *
  go_enter Tryz.func82, Tryz.ntmps82
  go_wp2_with fail
  go_big_quiet (fail)
  go_wp2_with fail
  go_ret
  exact ⟨by cases b <;> rfl, m + nq, by rw [HW.out, World.drewN_drewN]⟩
end Go.Proofs.YtpjijbophjdgaaaGreat
