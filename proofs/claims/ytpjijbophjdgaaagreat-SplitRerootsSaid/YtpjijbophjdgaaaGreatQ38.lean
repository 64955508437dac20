/- PhylotreeTexts, plain. PhylotreeRerooted, plain. The parts of a restricted tree, plain: which sets of leaves they have; restricting twice. PhylotreeRestricted, plain. The splits of a tree: plain. The tree of splits: plain. The first pair that is not compatible; how many splits are of one tree only: plain. -/
import Derived.Test.YtpjijbophjdgaaaGreatQ36
import Derived.Test.YtpjijbophjdgaaaGreatQ37
import Derived.Test.YtpjijbophjdgaaaGreatQ33
import Derived.Test.YtpjijbophjdgaaaGreatQ24
import Derived.Test.YtpjijbophjdgaaaGreatQ18
import Derived.Test.YtpjijbophjdgaaaGreatQ32
import Derived.Test.YtpjijbophjdgaaaGreatQ26
namespace Go.Proofs.YtpjijbophjdgaaaGreat
section
variable {t : Tre}
end
end Go.Proofs.YtpjijbophjdgaaaGreat
namespace Go.Proofs.YtpjijbophjdgaaaGreat
section
variable {t : Tre}
def fdN (ns : List ByteArray) (a : ByteArray) : Int := firstIx (fun j => decide (a = gs ns j)) ns.length
theorem mem_flt {ns : List ByteArray} {a : ByteArray} : a ∈ fltN ns ↔ ∃ j, j < ns.length ∧ gs ns j = a ∧ a.size ≠ 0 := by
  unfold fltN
  rw [List.mem_filter]
  constructor
  · rintro ⟨h1, h2⟩
    obtain ⟨j, hj, e⟩ := List.mem_iff_getElem.1 h1
    exact ⟨j, hj, by rw [← e]; simp [gs, hj], of_decide_eq_true h2⟩
  · rintro ⟨j, hj, e, h2⟩
    refine ⟨?_, decide_eq_true h2⟩
    have : gs ns j = ns[j] := by simp [gs, hj]
    rw [← e, this]; exact List.getElem_mem hj
end
section
variable {t : Tre} {la : Nat}
end
end Go.Proofs.YtpjijbophjdgaaaGreat
namespace Go.Proofs.YtpjijbophjdgaaaGreat
section
variable {t : Tre} {L : List Int}
end
end Go.Proofs.YtpjijbophjdgaaaGreat
namespace Go.Proofs.YtpjijbophjdgaaaGreat
section
variable {t : Tre}
theorem sortL_pair (l : List Int) : (sortL l).Pairwise (· ≤ ·) := by
  have h := List.pairwise_mergeSort (le := fun x y : Int => decide (x ≤ y)) (fun a b c h1 h2 => by simp at h1 h2 ⊢; omega) (fun a b => by
    simp only [Bool.or_eq_true, decide_eq_true_eq]; omega) l
  exact h.imp fun h => by simpa using h
theorem nodup_map {α β : Type} {f : α → β} : ∀ {l : List α}, l.Nodup → (∀ x ∈ l, ∀ y ∈ l, f x = f y → x = y) → (l.map f).Nodup
  | [], _, _ => List.nodup_nil
  | a :: l, hn, h => by
    rw [List.map_cons, List.nodup_cons]
    have hn2 := List.nodup_cons.1 hn
    refine ⟨fun hm => ?_, nodup_map hn2.2 fun x hx y hy e => h x (List.mem_cons_of_mem _ hx) y (List.mem_cons_of_mem _ hy) e⟩
    obtain ⟨y, hy, e⟩ := List.mem_map.1 hm
    exact hn2.1 (h y (List.mem_cons_of_mem _ hy) a (List.mem_cons_self ..) e ▸ hy)
theorem lv_leafOk (he : treeErr t = 0) {x : Int} (hx : x ∈ leavesL t.ns) : ∃ j : Nat, x = j ∧ LeafOk t j := by
  obtain ⟨_, _, hl, _, _⟩ := treeErr_zero he
  obtain ⟨j, rfl, h1, h2⟩ := mem_leavesL.1 hx
  exact ⟨j, rfl, he, by omega, h2⟩
end
end Go.Proofs.YtpjijbophjdgaaaGreat
namespace Go.Proofs.YtpjijbophjdgaaaGreat
def lvS (t : Tre) (names : List ByteArray) (k : Nat) : List Int := memK (fun b => (List.range t.ps.length).any fun j => hitB t.ps k j && decide ((gs t.ns j).size ≠ 0) && decide (fdN names (gs t.ns j) = b)) names.length
def splS (n : Nat) (S : List Int) : List Int := if S.contains 0 then complL n S else S
def dupB (names : List ByteArray) : Bool := (List.range names.length).any (seenK names)
def offB (t : Tre) (names : List ByteArray) : Bool := (List.range (leavesL t.ns).length).any fun j => decide (fdN names (gs t.ns (gi (leavesL t.ns) j).toNat) < 0)
def splOErr (t : Tre) (names : List ByteArray) : Int :=
  if treeErr t ≠ 0 then 1 else if 32 < names.length then 4 else if dupB names then 7 else if (leavesL t.ns).length ≠ names.length ∨ offB t names = true then 9 else 0
def rawO (t : Tre) (names : List ByteArray) : List (List Int) := (((List.range t.ps.length).filter (fun k => decide (0 < k))).map fun k => splS names.length (lvS t names k)).filter fun s => decide (splErr names.length s = 0)
def splO (t : Tre) (names : List ByteArray) : List (List Int) := if splOErr t names = 0 then ordX (rawO t names) else []
structure OfOk (t : Tre) (names : List ByteArray) : Prop where
  te : treeErr t = 0
  le : names.length ≤ 32
  nd : ∀ j k, j < k → k < names.length → gs names k ≠ gs names j
  len : (leavesL t.ns).length = names.length
  has : ∀ j, j < t.ps.length → (gs t.ns j).size ≠ 0 → ∃ b : Nat, b < names.length ∧ gs names b = gs t.ns j
theorem fd_ex {names : List ByteArray} {a : ByteArray} : 0 ≤ fdN names a ↔ ∃ b, b < names.length ∧ gs names b = a := by
  constructor
  · intro h
    obtain ⟨k, hk⟩ := Int.eq_ofNat_of_zero_le h
    obtain ⟨h1, h2, _⟩ := firstIx_spec hk
    exact ⟨k, h1, (of_decide_eq_true h2).symm⟩
  · rintro ⟨b, hb, e⟩
    have hany : (List.range names.length).any (fun j => decide (a = gs names j)) = true := List.any_eq_true.2 ⟨b, List.mem_range.2 hb, decide_eq_true e.symm⟩
    rw [← firstIx_any] at hany
    exact of_decide_eq_true hany
theorem nd_inj {names : List ByteArray} (h : ∀ j k, j < k → k < names.length → gs names k ≠ gs names j) {a b : Nat} (ha : a < names.length) (hb : b < names.length) (e : gs names a = gs names b) : a = b := by
  rcases Nat.lt_trichotomy a b with c | c | c
  · exact absurd e.symm (h a b c hb)
  · exact c
  · exact absurd e (h b a c ha)
theorem fd_of {names : List ByteArray} (h : ∀ j k, j < k → k < names.length → gs names k ≠ gs names j) {b : Nat} (hb : b < names.length) : fdN names (gs names b) = (b : Int) := by
  have h1 : 0 ≤ fdN names (gs names b) := fd_ex.2 ⟨b, hb, rfl⟩
  obtain ⟨k, hk⟩ := Int.eq_ofNat_of_zero_le h1
  obtain ⟨h2, h3, _⟩ := firstIx_spec hk
  have h3 := of_decide_eq_true h3
  rw [hk]
  have := nd_inj h h2 hb h3.symm
  rw [this]
theorem dup_iff {names : List ByteArray} : dupB names = false ↔ ∀ j k, j < k → k < names.length → gs names k ≠ gs names j := by
  constructor
  · intro h j k hjk hk e
    have h1 := any_false h hk
    unfold seenK at h1
    have := any_false h1 hjk
    rw [decide_eq_true e.symm] at this; cases this
  · intro h
    refine any_none fun k hk => any_none fun j hj => decide_eq_false fun e => h j k hj hk e.symm
theorem splO_ok {t : Tre} {names : List ByteArray} : splOErr t names = 0 ↔ OfOk t names := by
  unfold splOErr
  constructor
  · intro h
    split at h
    · cases h
    · rename_i h1
      have h1 := Classical.not_not.1 h1
      obtain ⟨_, _, hl, _, _⟩ := treeErr_zero h1
      split at h
      · cases h
      · split at h
        · cases h
        · rename_i h3
          split at h
          · cases h
          · rename_i h4
            have h3 : dupB names = false := by simpa using h3
            have h4a : (leavesL t.ns).length = names.length := Classical.byContradiction fun e => h4 (.inl e)
            have h4b : offB t names = false := by
              cases e : offB t names with
              | false => rfl
              | true => exact absurd (.inr e) h4
            refine ⟨h1, by omega, dup_iff.1 h3, h4a, fun j hj h0 => ?_⟩
            have hm : (j : Int) ∈ leavesL t.ns := mem_leavesL.2 ⟨j, rfl, by omega, h0⟩
            obtain ⟨i, hi, e⟩ := in_gi hm
            have := any_false h4b hi
            rw [e, Int.toNat_natCast] at this
            have := of_decide_eq_false this
            exact fd_ex.1 (by omega)
  · intro h
    obtain ⟨_, _, hl, _, _⟩ := treeErr_zero h.te
    have hle := h.le
    rw [if_neg (fun e => e h.te), if_neg (by omega), dup_iff.2 h.nd, if_neg (by decide), if_neg]
    rintro (e | e)
    · exact e h.len
    · obtain ⟨i, hi, e⟩ := List.any_eq_true.1 e
      have hi := List.mem_range.1 hi
      obtain ⟨j, e1, e2, e3⟩ := mem_leavesL.1 (gi_mem hi)
      have e := of_decide_eq_true e
      rw [e1, Int.toNat_natCast] at e
      have := fd_ex.2 (h.has j (by omega) e3)
      omega
section
variable {t : Tre} {names : List ByteArray}
theorem hit_rootS (h : treeErr t = 0) (k : Nat) (hk : k < t.ps.length) : hitB t.ps 0 k = true := hit_all0 h k k (Nat.le_refl _) hk
theorem of_names (h : OfOk t names) {b : Nat} (hb : b < names.length) : ∃ j, j < t.ps.length ∧ (gs t.ns j).size ≠ 0 ∧ gs t.ns j = gs names b := by
  obtain ⟨_, _, hl, _, _⟩ := treeErr_zero h.te
  have hp : ∀ x ∈ leavesL t.ns, ∃ j : Nat, x = j ∧ LeafOk t j := fun x hx => lv_leafOk h.te hx
  have hnd : ((leavesL t.ns).map fun x => fdN names (gs t.ns x.toNat)).Nodup := by
    refine nodup_map ((leavesL_asc t.ns).imp fun h e => by omega) fun x hx y hy e => ?_
    obtain ⟨j, rfl, hj⟩ := hp x hx
    obtain ⟨k, rfl, hk⟩ := hp y hy
    rw [Int.toNat_natCast, Int.toNat_natCast] at e
    obtain ⟨b1, c1, e1⟩ := h.has j hj.lt hj.nm
    obtain ⟨b2, c2, e2⟩ := h.has k hk.lt hk.nm
    rw [← e1, ← e2, fd_of h.nd c1, fd_of h.nd c2] at e
    have : b1 = b2 := by omega
    subst this
    have := hj.inj hj.lt hk.lt hj.nm (by rw [← e1, ← e2])
    rw [this]
  have hperm := perm_subI (q := allI names.length) hnd (fun x hx => by
    obtain ⟨y, hy, rfl⟩ := List.mem_map.1 hx
    obtain ⟨j, rfl, hj⟩ := hp y hy
    obtain ⟨b1, c1, e1⟩ := h.has j hj.lt hj.nm
    rw [Int.toNat_natCast, ← e1, fd_of h.nd c1]
    exact mem_allI.2 ⟨by omega, by omega⟩) (by rw [allI_len, List.length_map, h.len]; exact Nat.le_refl _)
  have hb' : (b : Int) ∈ (leavesL t.ns).map fun x => fdN names (gs t.ns x.toNat) := hperm.mem_iff.2 (mem_allI.2 ⟨by omega, by omega⟩)
  obtain ⟨y, hy, e⟩ := List.mem_map.1 hb'
  obtain ⟨j, rfl, hj⟩ := hp y hy
  rw [Int.toNat_natCast] at e
  refine ⟨j, hj.lt, hj.nm, ?_⟩
  obtain ⟨b1, c1, e1⟩ := h.has j hj.lt hj.nm
  rw [← e1, fd_of h.nd c1] at e
  have : b1 = b := by omega
  rw [← e1, this]
theorem mem_lvS {k : Nat} {x : Int} : x ∈ lvS t names k ↔ 0 ≤ x ∧ x < (names.length : Int) ∧ ∃ j, j < t.ps.length ∧ hitB t.ps k j = true ∧ (gs t.ns j).size ≠ 0 ∧ fdN names (gs t.ns j) = x := by
  unfold lvS
  rw [mem_memK, List.any_eq_true]
  constructor
  · rintro ⟨h1, h2, j, hj, h3⟩
    simp only [Bool.and_eq_true, decide_eq_true_eq] at h3
    exact ⟨h1, h2, j, List.mem_range.1 hj, h3.1.1, h3.1.2, h3.2⟩
  · rintro ⟨h1, h2, j, hj, h3, h4, h5⟩
    refine ⟨h1, h2, j, List.mem_range.2 hj, ?_⟩
    simp only [Bool.and_eq_true, decide_eq_true_eq]
    exact ⟨⟨h3, h4⟩, h5⟩
theorem lvS_asc (t : Tre) (names : List ByteArray) (k : Nat) : (lvS t names k).Pairwise (· < ·) := memK_asc _ _
theorem lvS_lv (h : OfOk t names) {k : Nat} (hk : k < t.ps.length) : Lv names (toRF (frT t) (rkT t) k) (lvS t names k) := fun y => by
  rw [und_iff h.te hk]
  constructor
  · rintro ⟨j, hj, h1, h2, rfl⟩
    obtain ⟨b, hb, e⟩ := h.has j hj h2
    refine ⟨b, mem_lvS.2 ⟨by omega, by omega, j, hj, h1, h2, ?_⟩, e.symm⟩
    rw [← e, fd_of h.nd hb]
  · rintro ⟨b, hb, rfl⟩
    obtain ⟨_, h1, j, hj, h2, h3, h4⟩ := mem_lvS.1 hb
    obtain ⟨b', hb', e⟩ := h.has j hj h3
    rw [← e, fd_of h.nd hb'] at h4
    refine ⟨j, hj, h2, h3, ?_⟩
    rw [← e]
    congr 1
    omega
theorem lv_inj (hn : ∀ j k, j < k → k < names.length → gs names k ≠ gs names j) {s : RT} {X Y : List Int} (hX : X.Pairwise (· < ·)) (hY : Y.Pairwise (· < ·)) (bX : ∀ x ∈ X, 0 ≤ x ∧ x < (names.length : Int)) (bY : ∀ x ∈ Y, 0 ≤ x ∧ x < (names.length : Int)) (h1 : Lv names s X) (h2 : Lv names s Y) : X = Y := by
  have key : ∀ {X Y : List Int}, (∀ x ∈ X, 0 ≤ x ∧ x < (names.length : Int)) → (∀ x ∈ Y, 0 ≤ x ∧ x < (names.length : Int)) → Lv names s X → Lv names s Y → ∀ x ∈ X, x ∈ Y := fun {X Y} bX bY h1 h2 x hx => by
    obtain ⟨x0, xn⟩ := bX x hx
    obtain ⟨b, rfl⟩ := Int.eq_ofNat_of_zero_le x0
    obtain ⟨b', hb', e⟩ := (h2 (gs names b)).1 ((h1 _).2 ⟨b, hx, rfl⟩)
    have := bY _ hb'
    have := nd_inj hn (a := b) (b := b') (by omega) (by omega) e
    rw [this]; exact hb'
  exact asc_ext hX hY fun x => ⟨key bX bY h1 h2 x, key bY bX h2 h1 x⟩
theorem mem_splO (h : OfOk t names) {s : List Int} : s ∈ splO t names ↔ SplOk names.length s ∧ ∃ q ∈ subR (toR t), ∃ X, X.Pairwise (· < ·) ∧ (∀ x ∈ X, 0 ≤ x ∧ x < (names.length : Int)) ∧ Lv names q X ∧ s = splS names.length X := by
  unfold splO
  rw [if_pos (splO_ok.2 h), mem_ordX]
  unfold rawO
  rw [List.mem_filter, List.mem_map, decide_eq_true_eq, splErr_zero]
  constructor
  · rintro ⟨⟨k, hk, rfl⟩, h2⟩
    have hk := List.mem_range.1 (List.mem_filter.1 hk).1
    refine ⟨h2, toRF (frT t) (rkT t) k, ?_, lvS t names k, lvS_asc _ _ _, fun x hx => by have := mem_lvS.1 hx; exact ⟨this.1, this.2.1⟩, lvS_lv h hk, rfl⟩
    rw [subR_toR h.te]
    refine List.mem_map.2 ⟨k, ?_, rfl⟩
    have h0 := (treeErr_zero h.te).1
    refine (mem_nodesF (frT_arb h.te).wf h0 (Nat.le_refl _)).2 ?_
    rw [sub_hit h.te _ 0 k (Nat.le_refl _) h0 hk]
    exact hit_rootS h.te k hk
  · rintro ⟨h2, q, hq, X, hX, bX, hL, rfl⟩
    refine ⟨?_, h2⟩
    rw [subR_toR h.te] at hq
    obtain ⟨k, hk, rfl⟩ := List.mem_map.1 hq
    have hk := mem_nodes_lt h.te hk
    have e := lv_inj h.nd hX (lvS_asc t names k) bX (fun x hx => by have := mem_lvS.1 hx; exact ⟨this.1, this.2.1⟩) hL (lvS_lv h hk)
    refine ⟨k, List.mem_filter.2 ⟨List.mem_range.2 hk, decide_eq_true ?_⟩, by rw [e]⟩
    rcases Nat.eq_zero_or_pos k with e0 | e0
    · exfalso
      subst e0
      have hall : ∀ b : Nat, b < names.length → (b : Int) ∈ X := fun b hb => by
        rw [e]
        obtain ⟨j, hj, h3, h4⟩ := of_names h hb
        exact mem_lvS.2 ⟨by omega, by omega, j, hj, hit_rootS h.te j hj, h3, by rw [h4, fd_of h.nd hb]⟩
      have h0 := h2.n1
      have h3 : X.contains 0 = true := List.contains_iff_mem.2 (hall 0 (by omega))
      have h4 := h2.len
      have h5 : splS names.length X = [] := by
        unfold splS
        rw [if_pos h3, List.eq_nil_iff_forall_not_mem]
        intro x hx
        obtain ⟨x0, xn, hx⟩ := mem_complL.1 hx
        obtain ⟨b, rfl⟩ := Int.eq_ofNat_of_zero_le x0
        exact hx (hall b (by omega))
      rw [h5] at h4
      simp at h4
    · exact e0
end
end Go.Proofs.YtpjijbophjdgaaaGreat
namespace Go.Proofs.YtpjijbophjdgaaaGreat
def bnErr (names : List ByteArray) (i : Nat) : Int := if namedB (gs names i).data.toList then (if seenK names i then 7 else 0) else 14
def bldErr (names : List ByteArray) (l : List (List Int)) : Int :=
  if names.length = 0 then 5 else if 32 < names.length ∨ 64 < l.length then 4
  else if firstNZ (bnErr names) names.length ≠ 0 then firstNZ (bnErr names) names.length
  else if firstNZ (fun k => splErr names.length (gl l k)) l.length ≠ 0 then firstNZ (fun k => splErr names.length (gl l k)) l.length
  else if 0 ≤ pairI l then 17 else 0
structure BldOk (names : List ByteArray) (l : List (List Int)) : Prop where
  pos : 0 < names.length
  le : names.length ≤ 32
  l64 : l.length ≤ 64
  nm : ∀ k, k < names.length → namedB (gs names k).data.toList = true
  nd : ∀ j k, j < k → k < names.length → gs names k ≠ gs names j
  spl : ∀ s ∈ l, SplOk names.length s
  cmp : ∀ i k, i < k → k < l.length → compB (gl l i) (gl l k) = true
theorem gl_in {l : List (List Int)} {k : Nat} (h : k < l.length) : gl l k ∈ l := by simp [gl, h]
theorem in_gl {l : List (List Int)} {x : List Int} (h : x ∈ l) : ∃ k, k < l.length ∧ gl l k = x := by
  obtain ⟨k, hk, e⟩ := List.mem_iff_getElem.1 h
  exact ⟨k, hk, by simp [gl, hk, e]⟩
theorem pair_none {l : List (List Int)} : pairI l < 0 ↔ ∀ i k, i < k → k < l.length → compB (gl l i) (gl l k) = true := by
  have h1 := firstIx_any (fun i => decide (0 ≤ rowPair l i)) l.length
  have h2 : ∀ i, decide (0 ≤ rowPair l i) = (List.range l.length).any fun k => decide (i < k) && !compB (gl l i) (gl l k) := fun i => firstIx_any _ _
  constructor
  · intro h i k hik hk
    have h3 : (List.range l.length).any (fun i => decide (0 ≤ rowPair l i)) = false := by
      rw [← h1]; exact decide_eq_false (by unfold pairI at h; omega)
    have h4 := any_false h3 (show i < l.length by omega)
    rw [h2] at h4
    have h5 := any_false h4 hk
    rw [decide_eq_true hik, Bool.true_and] at h5
    simpa using h5
  · intro h
    have h3 : (List.range l.length).any (fun i => decide (0 ≤ rowPair l i)) = false := any_none fun i hi => by
      rw [h2]
      refine any_none fun k hk => ?_
      by_cases e : i < k
      · rw [h i k e hk]; simp
      · rw [decide_eq_false e]; rfl
    rw [← h1] at h3
    have := of_decide_eq_false h3
    unfold pairI; omega
theorem bldErr_ok {names : List ByteArray} {l : List (List Int)} : bldErr names l = 0 ↔ BldOk names l := by
  unfold bldErr
  constructor
  · intro h
    split at h
    · cases h
    · split at h
      · cases h
      · split at h
        · rename_i h3; exact absurd h h3
        · rename_i h3
          have h3 := firstNZ_eq_zero (Classical.not_not.1 h3)
          split at h
          · rename_i h4; exact absurd h h4
          · rename_i h4
            have h4 := firstNZ_eq_zero (Classical.not_not.1 h4)
            split at h
            · cases h
            · rename_i h5
              refine ⟨by omega, by omega, by omega, fun k hk => ?_, fun j k hjk hk e => ?_, fun s hs => ?_, pair_none.1 (by omega)⟩
              · have := h3 k hk
                unfold bnErr at this
                split at this
                · assumption
                · cases this
              · have := h3 k hk
                unfold bnErr at this
                split at this
                · rw [if_pos] at this
                  · cases this
                  · exact List.any_eq_true.2 ⟨j, List.mem_range.2 hjk, decide_eq_true e.symm⟩
                · cases this
              · obtain ⟨k, hk, rfl⟩ := in_gl hs
                exact splErr_zero.1 (h4 k hk)
  · intro h
    have h1 := h.pos
    have h2 := h.le
    have h3 := h.l64
    have h4 : firstNZ (bnErr names) names.length = 0 := firstNZ_zero fun k hk => by
      unfold bnErr
      rw [if_pos (h.nm k hk), if_neg]
      intro e
      obtain ⟨j, hj, e⟩ := List.any_eq_true.1 e
      exact h.nd j k (List.mem_range.1 hj) hk (of_decide_eq_true e).symm
    have h5 : firstNZ (fun k => splErr names.length (gl l k)) l.length = 0 := firstNZ_zero fun k hk => splErr_zero.2 (h.spl _ (gl_in hk))
    have h6 := pair_none.2 h.cmp
    rw [if_neg (by omega), if_neg (by omega), if_neg (fun e => e h4), if_neg (fun e => e h5), if_neg (by omega)]
def cmpQ (a b : List Int) : Int := if b.length < a.length then -1 else if a.length < b.length then 1 else cmpL a b
theorem cmpQ_zero {a b : List Int} (h : cmpQ a b = 0) : a = b := by
  unfold cmpQ at h
  split at h
  · omega
  · split at h
    · omega
    · exact cmpL_zero h
theorem cmpQ_self (a : List Int) : cmpQ a a = 0 := by unfold cmpQ; rw [if_neg (by omega), if_neg (by omega)]; exact cmpL_self a
theorem cmpQ_anti (a b : List Int) : cmpQ b a = - cmpQ a b := by
  unfold cmpQ
  by_cases h1 : b.length < a.length
  · simp only [if_pos h1, if_neg (show ¬ a.length < b.length by omega)]; rfl
  · by_cases h2 : a.length < b.length
    · simp only [if_pos h2, if_neg h1]
    · simp only [if_neg h1, if_neg h2]; exact cmpL_anti a b
theorem cmpQ_trans {a b c : List Int} (h1 : cmpQ a b < 0) (h2 : cmpQ b c < 0) : cmpQ a c < 0 := by
  unfold cmpQ at *
  by_cases x1 : b.length < a.length
  · by_cases y1 : c.length < b.length
    · rw [if_pos (by omega)]; omega
    · rw [if_neg y1] at h2
      by_cases y2 : b.length < c.length
      · rw [if_pos y2] at h2; omega
      · rw [if_pos (by omega)]; omega
  · rw [if_neg x1] at h1
    by_cases x2 : a.length < b.length
    · rw [if_pos x2] at h1; omega
    · rw [if_neg x2] at h1
      by_cases y1 : c.length < b.length
      · rw [if_pos (by omega)]; omega
      · rw [if_neg y1] at h2
        by_cases y2 : b.length < c.length
        · rw [if_pos y2] at h2; omega
        · rw [if_neg y2] at h2
          rw [if_neg (by omega), if_neg (by omega)]
          exact cmpL_trans h1 h2
def leQ (a b : List Int) : Prop := cmpQ a b ≤ 0
theorem leQ_trans {a b c : List Int} (h1 : leQ a b) (h2 : leQ b c) : leQ a c := by
  unfold leQ at *
  by_cases e1 : cmpQ a b = 0
  · rw [cmpQ_zero e1]; exact h2
  · by_cases e2 : cmpQ b c = 0
    · rw [← cmpQ_zero e2]; exact h1
    · have h3 : cmpQ a b < 0 := by omega
      have h4 : cmpQ b c < 0 := by omega
      exact Int.le_of_lt (cmpQ_trans h3 h4)
def insQ (a : List Int) : List (List Int) → List (List Int)
  | [] => [a]
  | b :: l => if cmpQ a b ≤ 0 then a :: b :: l else b :: insQ a l
def sortQ : List (List Int) → List (List Int)
  | [] => []
  | a :: l => insQ a (sortQ l)
theorem insQ_perm (a : List Int) : ∀ l : List (List Int), (insQ a l).Perm (a :: l)
  | [] => List.Perm.refl _
  | b :: l => by
    rw [insQ]
    split
    · exact List.Perm.refl _
    · exact (List.Perm.cons b (insQ_perm a l)).trans (List.Perm.swap a b l)
theorem sortQ_perm : ∀ l : List (List Int), (sortQ l).Perm l
  | [] => List.Perm.refl _
  | a :: l => (insQ_perm a _).trans (List.Perm.cons a (sortQ_perm l))
theorem insQ_sorted (a : List Int) : ∀ {l : List (List Int)}, l.Pairwise leQ → (insQ a l).Pairwise leQ
  | [], _ => by simp [insQ]
  | b :: l, h => by
    rw [insQ]
    rw [List.pairwise_cons] at h
    split
    · rename_i h1
      refine List.pairwise_cons.2 ⟨fun c hc => ?_, List.pairwise_cons.2 h⟩
      rcases List.mem_cons.1 hc with rfl | hc
      · exact h1
      · exact leQ_trans h1 (h.1 c hc)
    · rename_i h1
      refine List.pairwise_cons.2 ⟨fun c hc => ?_, insQ_sorted a h.2⟩
      rcases List.mem_cons.1 ((insQ_perm a l).mem_iff.1 hc) with rfl | hc
      · unfold leQ; have := cmpQ_anti c b; omega
      · exact h.1 c hc
theorem sortQ_sorted : ∀ l : List (List Int), (sortQ l).Pairwise leQ
  | [] => List.Pairwise.nil
  | a :: l => insQ_sorted a (sortQ_sorted l)
theorem sortQ_uniq {a b : List (List Int)} (hp : a.Perm b) (h : a.Pairwise leQ) : a = sortQ b :=
  List.Perm.eq_of_pairwise (le := leQ) (fun x y _ _ h1 h2 => cmpQ_zero (by unfold leQ at h1 h2; have := cmpQ_anti x y; omega)) h (sortQ_sorted b) (hp.trans (sortQ_perm b).symm)
def ownQ (l : List (List Int)) : List (List Int) := cptX (sortQ l)
theorem mem_ownO {x : List Int} {l : List (List Int)} : x ∈ ownQ l ↔ x ∈ l := by unfold ownQ; rw [mem_cptX]; exact (sortQ_perm l).mem_iff
theorem cptQ_strict : ∀ {l : List (List Int)}, l.Pairwise leQ → (cptX l).Pairwise fun a b => cmpQ a b < 0
  | [], _ => List.Pairwise.nil
  | a :: l, h => by
    rw [List.pairwise_cons] at h
    rw [cptX]
    split
    · exact cptQ_strict h.2
    · rename_i hne
      refine List.pairwise_cons.2 ⟨fun c hc => ?_, cptQ_strict h.2⟩
      have hc := mem_cptX.1 hc
      have h1 := h.1 c hc
      unfold leQ at h1
      by_cases e : cmpQ a c = 0
      · exfalso
        have e := cmpQ_zero e
        subst e
        cases l with
        | nil => cases hc
        | cons b l =>
          rw [List.head?_cons] at hne
          have h2 := h.1 b (by simp)
          rcases List.mem_cons.1 hc with rfl | hc
          · exact hne rfl
          · have h3 := (List.pairwise_cons.1 h.2).1 _ hc
            unfold leQ at h2 h3
            have := cmpQ_anti a b
            exact hne (by rw [cmpQ_zero (a := a) (b := b) (by omega)])
      · omega
theorem ownQ_strict (l : List (List Int)) : (ownQ l).Pairwise fun a b => cmpQ a b < 0 := cptQ_strict (sortQ_sorted l)
theorem cptX_len : ∀ l : List (List Int), (cptX l).length ≤ l.length
  | [] => Nat.le_refl _
  | a :: l => by
    rw [cptX]
    have := cptX_len l
    split <;> simp <;> omega
theorem ownQ_len (l : List (List Int)) : (ownQ l).length ≤ l.length := by unfold ownQ; rw [← (sortQ_perm l).length_eq]; exact cptX_len _
def lastQ (own : List (List Int)) (x : Int) : Nat → Int
  | 0 => 2
  | k + 1 => if (gl own k).contains x then ((3 + k : Nat) : Int) else lastQ own x k
def bT (names : List ByteArray) (own : List (List Int)) : Tre :=
  ⟨[-1, 0, 0] ++ ((List.range own.length).map (fun k => lastQ own (gi (gl own k) 0) k) ++ (List.range (names.length - 1)).map fun b => lastQ own ((b + 1 : Nat) : Int) own.length),
   [ByteArray.empty, gs names 0, ByteArray.empty] ++ (List.replicate own.length ByteArray.empty ++ (List.range (names.length - 1)).map fun b => gs names (b + 1))⟩
def bldT (names : List ByteArray) (l : List (List Int)) : Tre :=
  if names.length = 1 then ⟨[-1], [gs names 0]⟩ else if names.length = 2 then canT ⟨[-1, 0, 0], [ByteArray.empty, gs names 0, gs names 1]⟩ else canT (bT names (ownQ l))
def bldR (names : List ByteArray) (l : List (List Int)) : Tre := if bldErr names l = 0 then bldT names l else ⟨[], []⟩
def bS (names : List ByteArray) (own : List (List Int)) (i : Nat) : List Int :=
  if i = 0 then allI names.length else if i = 1 then [0] else if i = 2 then complL names.length [0] else if i < 3 + own.length then gl own (i - 3) else [((i - 2 - own.length : Nat) : Int)]
theorem lastQ_spec (own : List (List Int)) (x : Int) : ∀ k, (lastQ own x k = 2 ∧ ∀ j, j < k → x ∉ gl own j) ∨ ∃ p, p < k ∧ lastQ own x k = ((3 + p : Nat) : Int) ∧ x ∈ gl own p ∧ ∀ j, p < j → j < k → x ∉ gl own j
  | 0 => .inl ⟨rfl, fun j hj => absurd hj (Nat.not_lt_zero _)⟩
  | k + 1 => by
    rw [lastQ]
    by_cases h : x ∈ gl own k
    · rw [if_pos (List.contains_iff_mem.2 h)]
      exact .inr ⟨k, by omega, rfl, h, fun j h1 h2 => by omega⟩
    · rw [if_neg (fun e => h (List.contains_iff_mem.1 e))]
      rcases lastQ_spec own x k with ⟨h1, h2⟩ | ⟨p, h1, h2, h3, h4⟩
      · refine .inl ⟨h1, fun j hj => ?_⟩
        by_cases e : j = k
        · subst e; exact h
        · exact h2 j (by omega)
      · refine .inr ⟨p, by omega, h2, h3, fun j hj1 hj2 => ?_⟩
        by_cases e : j = k
        · subst e; exact h
        · exact h4 j hj1 (by omega)
section
variable {names : List ByteArray} {l : List (List Int)}
theorem bT_len : (bT names (ownQ l)).ps.length = 3 + (ownQ l).length + (names.length - 1) := by simp [bT]; omega
theorem bT_nlen : (bT names (ownQ l)).ns.length = 3 + (ownQ l).length + (names.length - 1) := by simp [bT]; omega
theorem bT_ps {own : List (List Int)} (i : Nat) : gi (bT names own).ps i = if i = 0 then -1 else if i < 3 then 0 else if i < 3 + own.length then lastQ own (gi (gl own (i - 3)) 0) (i - 3) else if i < 3 + own.length + (names.length - 1) then lastQ own ((i - 2 - own.length : Nat) : Int) own.length else 0 := by
  by_cases h0 : i = 0
  · subst h0; rfl
  by_cases h1 : i = 1
  · subst h1; rfl
  by_cases h2 : i = 2
  · subst h2; rfl
  obtain ⟨j, rfl⟩ : ∃ j, i = 3 + j := ⟨i - 3, by omega⟩
  rw [if_neg h0, if_neg (by omega)]
  have e : gi (bT names own).ps (3 + j) = gi ((List.range own.length).map (fun k => lastQ own (gi (gl own k) 0) k) ++ (List.range (names.length - 1)).map fun b => lastQ own ((b + 1 : Nat) : Int) own.length) j := by
    have := gi_app_r [-1, 0, 0] ((List.range own.length).map (fun k => lastQ own (gi (gl own k) 0) k) ++ (List.range (names.length - 1)).map fun b => lastQ own ((b + 1 : Nat) : Int) own.length) j
    exact this
  rw [e]
  by_cases h3 : j < own.length
  · rw [if_pos (by omega), gi_app_l _ (by simpa using h3), show 3 + j - 3 = j by omega]
    simp [gi, h3]
  · rw [if_neg (by omega)]
    obtain ⟨b, rfl⟩ : ∃ b, j = own.length + b := ⟨j - own.length, by omega⟩
    have e2 := gi_app_r ((List.range own.length).map (fun k => lastQ own (gi (gl own k) 0) k)) ((List.range (names.length - 1)).map fun b => lastQ own ((b + 1 : Nat) : Int) own.length) b
    rw [List.length_map, List.length_range] at e2
    rw [e2]
    by_cases h4 : b < names.length - 1
    · rw [if_pos (by omega), show 3 + (own.length + b) - 2 - own.length = b + 1 by omega]
      simp [gi, h4]
    · rw [if_neg (by omega)]
      simp [gi, h4]
end
end Go.Proofs.YtpjijbophjdgaaaGreat
namespace Go.Proofs.YtpjijbophjdgaaaGreat
def hasL (b : List (List Int)) (s : List Int) : Bool := (List.range b.length).any fun j => decide (s = gl b j)
def onlyK (a b : List (List Int)) : Nat → Nat
  | 0 => 0
  | k + 1 => onlyK a b k + if hasL b (gl a k) then 0 else 1
def onlyN (a b : List (List Int)) : Nat := onlyK a b a.length
def distN (a b : List (List Int)) : Nat := onlyN a b + onlyN b a
theorem onlyK_le (a b : List (List Int)) : ∀ k, onlyK a b k ≤ k
  | 0 => Nat.le_refl _
  | k + 1 => by
    have := onlyK_le a b k
    rw [onlyK]; split <;> omega
theorem only_le (a b : List (List Int)) : onlyN a b ≤ a.length := onlyK_le a b _
end Go.Proofs.YtpjijbophjdgaaaGreat
