/- What the sets of Consistent hold; at Tree's tree. Plain: the names below the root are all names; the reference's test of leaves against names is the map's. -/
import Derived.Test.YtgjcfkadioblfaaGreatQ23
import Derived.Test.YtgjcfkadioblfaaGreatQ24
import Derived.Test.YtgjcfkadioblfaaGreatQ25
import Derived.Test.YtgjcfkadioblfaaGreatQ26
import Derived.Test.YtgjcfkadioblfaaGreatQ22
namespace Go.Proofs.YtgjcfkadioblfaaGreat
/-- A leaf below node i has the number b. -/
def Under (t : Tre) (num : ByteArray → Nat) (i b : Nat) : Prop := ∃ j, j < t.ps.length ∧ (gs t.ns j).size ≠ 0 ∧ hitB t.ps i j = true ∧ num (gs t.ns j) = b
theorem under_step {t : Tre} (hp : pOkB t.ps = true) (num : ByteArray → Nat) {i b : Nat} (hi : i < t.ps.length) :
    Under t num i b ↔ ((gs t.ns i).size ≠ 0 ∧ num (gs t.ns i) = b) ∨ ∃ c, c < t.ps.length ∧ i < c ∧ gi t.ps c = (i : Int) ∧ Under t num c b := by
  constructor
  · rintro ⟨j, h1, h2, h3, h4⟩
    rcases (hit_kid hp h1).1 h3 with e | ⟨c, c1, c2, c3, c4⟩
    · subst e; exact .inl ⟨h2, h4⟩
    · exact .inr ⟨c, c1, c2, c3, j, h1, h2, c4, h4⟩
  · rintro (⟨h1, h2⟩ | ⟨c, c1, c2, c3, j, h1, h2, h3, h4⟩)
    · exact ⟨i, hi, h1, hit_self i, h2⟩
    · exact ⟨j, h1, h2, (hit_kid hp h1).2 (.inr ⟨c, c1, c2, c3, h3⟩), h4⟩
structure OwnInv (t : Tre) (num : ByteArray → Nat) (k : Nat) (o : List Nat) : Prop where
  len : o.length = t.ps.length
  up : ∀ i, k ≤ i → i < t.ps.length → ∀ b, (gn o i).testBit b = true ↔ Under t num i b
  down : ∀ i, i < k → i < t.ps.length → ∀ b, (gn o i).testBit b = true ↔ ∃ c, k ≤ c ∧ c < t.ps.length ∧ gi t.ps c = (i : Int) ∧ Under t num c b
theorem own_step {t : Tre} (hp : pOkB t.ps = true) (num : ByteArray → Nat) {n : Nat} (hn : n < t.ps.length) {o : List Nat} (h : OwnInv t num (n + 1) o) : OwnInv t num n (ownStep t num n o) := by
  obtain ⟨o1, ho1⟩ : ∃ o1, o1 = if (gs t.ns n).size ≠ 0 then o.set n (gn o n ||| 2 ^ num (gs t.ns n)) else o := ⟨_, rfl⟩
  have hl1 : o1.length = t.ps.length := by rw [ho1]; split <;> simp [h.len]
  have hne : ∀ i, i ≠ n → gn o1 i = gn o i := fun i hi => by
    rw [ho1]; split
    · rw [gn_set (by rw [h.len]; exact hn), if_neg hi]
    · rfl
  have hn1 : ∀ b, (gn o1 n).testBit b = true ↔ Under t num n b := fun b => by
    rw [under_step hp num hn, ho1]
    have hd := h.down n (by omega) hn b
    have hk : (∃ c, n + 1 ≤ c ∧ c < t.ps.length ∧ gi t.ps c = (n : Int) ∧ Under t num c b) ↔ ∃ c, c < t.ps.length ∧ n < c ∧ gi t.ps c = (n : Int) ∧ Under t num c b :=
      ⟨fun ⟨c, c1, c2, c3, c4⟩ => ⟨c, c2, by omega, c3, c4⟩, fun ⟨c, c1, c2, c3, c4⟩ => ⟨c, by omega, c1, c3, c4⟩⟩
    by_cases hs : (gs t.ns n).size ≠ 0
    · rw [if_pos hs, gn_set (by rw [h.len]; exact hn), if_pos rfl, Nat.testBit_or, Nat.testBit_two_pow, Bool.or_eq_true, hd, hk]
      constructor
      · rintro (h1 | h1)
        · exact .inr h1
        · exact .inl ⟨hs, by simpa using h1⟩
      · rintro (⟨_, h1⟩ | h1)
        · exact .inr (by simpa using h1)
        · exact .inl h1
    · rw [if_neg hs, hd, hk]
      constructor
      · exact .inr
      · rintro (⟨h1, _⟩ | h1)
        · exact absurd h1 hs
        · exact h1
  have hst : ownStep t num n o = if 0 ≤ gi t.ps n then o1.set (gi t.ps n).toNat (gn o1 (gi t.ps n).toNat ||| gn o1 n) else o1 := by rw [ho1]; rfl
  by_cases hz : n = 0
  · subst hz
    have hneg : ¬ 0 ≤ gi t.ps 0 := by
      have h1 := pOkB_at hp hn
      unfold okp at h1
      rw [if_pos rfl] at h1
      have : gi t.ps 0 = -1 := by simpa using h1
      omega
    rw [hst, if_neg hneg]
    refine ⟨hl1, fun i _ hi b => ?_, fun i hi => by omega⟩
    by_cases e : i = 0
    · subst e; exact hn1 b
    · rw [hne i e]; exact h.up i (by omega) hi b
  · obtain ⟨hp1, hp2⟩ := pOkB_par hp hn (by omega)
    obtain ⟨p, hpe⟩ : ∃ p : Nat, gi t.ps n = (p : Int) := ⟨(gi t.ps n).toNat, (Int.toNat_of_nonneg hp1).symm⟩
    rw [hst, if_pos hp1, hpe]
    have hpn : p < n := by omega
    have htn : ((p : Nat) : Int).toNat = p := by omega
    rw [htn]
    refine ⟨by rw [List.length_set]; exact hl1, fun i h1 h2 b => ?_, fun i h1 h2 b => ?_⟩
    · rw [gn_set (by omega), if_neg (by omega)]
      by_cases e : i = n
      · subst e; exact hn1 b
      · rw [hne i e]; exact h.up i (by omega) h2 b
    · rw [gn_set (by omega)]
      by_cases e : i = p
      · subst e
        rw [if_pos rfl, Nat.testBit_or, Bool.or_eq_true, hn1 b, hne i (by omega), h.down i (by omega) h2 b]
        constructor
        · rintro (⟨c, c1, c2, c3, c4⟩ | h3)
          · exact ⟨c, by omega, c2, c3, c4⟩
          · exact ⟨n, Nat.le_refl _, hn, hpe, h3⟩
        · rintro ⟨c, c1, c2, c3, c4⟩
          by_cases ec : c = n
          · subst ec; exact .inr c4
          · exact .inl ⟨c, by omega, c2, c3, c4⟩
      · rw [if_neg e, hne i (by omega), h.down i (by omega) h2 b]
        constructor
        · rintro ⟨c, c1, c2, c3, c4⟩; exact ⟨c, by omega, c2, c3, c4⟩
        · rintro ⟨c, c1, c2, c3, c4⟩
          refine ⟨c, ?_, c2, c3, c4⟩
          by_cases ec : c = n
          · subst ec; omega
          · omega
theorem own_down {t : Tre} (hp : pOkB t.ps = true) (num : ByteArray → Nat) : ∀ (k : Nat) (o : List Nat), k ≤ t.ps.length → OwnInv t num k o → OwnInv t num 0 (ownD t num k o)
  | 0, _, _, h => h
  | k + 1, o, hk, h => own_down hp num k _ (by omega) (own_step hp num (by omega) h)
/-- Node i's set holds the numbers of the leaves below it. -/
theorem own_bits {t : Tre} (hp : pOkB t.ps = true) (names : List ByteArray) : (ownF t names).length = t.ps.length ∧ ∀ i, i < t.ps.length → ∀ b, (gn (ownF t names) i).testBit b = true ↔ Under t (nmIx names) i b := by
  have h := own_down hp (nmIx names) t.ps.length (List.replicate t.ps.length 0) (Nat.le_refl _) ⟨by simp, fun i h1 h2 => by omega, fun i _ _ b => by
    rw [gn_zeros]
    constructor
    · intro e; simp at e
    · rintro ⟨c, c1, c2, _⟩; omega⟩
  exact ⟨h.len, fun i hi => h.up i (Nat.zero_le _) hi⟩
/-- At a tree numbered depth first: the leaves of the part. -/
theorem under_flat {r : RT} {i : Nat} {s : RT} (h : (subR r)[i]? = some s) (num : ByteArray → Nat) (b : Nat) : Under (flat r) num i b ↔ ∃ nm ∈ leafR s, num nm = b := by
  obtain ⟨h1, _, _, h4⟩ := psR_int r 0 (-1) i s h
  have hl := flat_ps r
  have hg : ∀ m, m < sizeR s → gs (flat r).ns (i + m) = gs (nsR s) m := fun m hm => by
    have h5 : (nsR r)[i + m]? = (nsR s)[m]? := by
      rw [← List.getElem?_drop, h4, List.getElem?_append_left (by rw [nsR_len]; exact hm)]
    show (nsR r).getD (i + m) _ = (nsR s).getD m _
    rw [List.getD_eq_getElem?_getD, List.getD_eq_getElem?_getD, h5]
  constructor
  · rintro ⟨j, j1, j2, j3, j4⟩
    rw [hit_flat h (by omega)] at j3
    have j3 := of_decide_eq_true j3
    obtain ⟨m, rfl⟩ : ∃ m, j = i + m := ⟨j - i, by omega⟩
    rw [hg m (by omega)] at j2 j4
    refine ⟨_, List.mem_filter.2 ⟨?_, by simpa using j2⟩, j4⟩
    have : m < (nsR s).length := by rw [nsR_len]; omega
    simp [gs, this]
  · rintro ⟨nm, hm, hb⟩
    obtain ⟨h5, h6⟩ := List.mem_filter.1 hm
    obtain ⟨m, hm1, hm2⟩ := List.getElem_of_mem h5
    have hms : m < sizeR s := by rw [nsR_len] at hm1; exact hm1
    have hgm : gs (nsR s) m = nm := by simp [gs, hm1, hm2]
    refine ⟨i + m, by omega, ?_, ?_, ?_⟩
    · rw [hg m hms, hgm]; simpa using h6
    · rw [hit_flat h (by omega)]; exact decide_eq_true (by omega)
    · rw [hg m hms, hgm]; exact hb
theorem all_u64 {n : Nat} (hn : n ≤ 32) : U64 (allN n) := Nat.lt_trans (all_lt hn) (by decide)
theorem all_bit {n i : Nat} (h : i < n) : (allN n).testBit i = true := by
  have h1 : i ∈ bitsN n (allN n) := by rw [all_bits]; exact List.mem_range.2 h
  exact (mem_bitsN.1 h1).2
theorem innK_in {l : List Grp} {all k : Nat} (h1 : 1 < (gg l k).src.length) (h2 : ofS (gg l k).src ≠ all) : ∀ {m : Nat}, k < m → ofS (gg l k).src ∈ innK l all m
  | 0, h => by omega
  | m + 1, h => by
    rw [innK]
    by_cases e : k = m
    · subst e
      by_cases hi : ofS (gg l k).src ∈ innK l all k
      · rw [if_neg (fun h => h.2.2 hi)]; exact hi
      · rw [if_pos ⟨h1, h2, hi⟩]; simp
    · have ih := innK_in h1 h2 (m := m) (by omega)
      split
      · exact List.mem_append_left _ ih
      · exact ih
theorem innK_has {l : List Grp} {all k : Nat} (hk : k < l.length) (h1 : 1 < (gg l k).src.length) (h2 : ofS (gg l k).src ≠ all) : ofS (gg l k).src ∈ innL l all := innK_in h1 h2 hk
section
variable {names : List ByteArray} {l : List Grp}
theorem nmIx_gs (h : ShOk names l) {q : Nat} (hq : q < names.length) : nmIx names (gs names q) = q := by
  have h1 : ((mpL names).lookup (gs names q)).isSome = true := mpK_some.2 ⟨q, hq, rfl⟩
  obtain ⟨_, h2, h3⟩ := nmIx_at h1
  by_cases e : nmIx names (gs names q) = q
  · exact e
  · exfalso
    rcases Nat.lt_or_gt_of_ne e with h4 | h4
    · exact h.nd _ _ h4 hq h3.symm
    · exact h.nd _ _ h4 h2 h3
theorem part_own {r : RT} (h : ShOk names l) {i : Nat} {s : RT} (hs : (subR r)[i]? = some s) {x : Nat} (hx : ∀ b, x.testBit b = true → b < names.length) (hl : (leafR s).Perm ((bitsN names.length x).map (gs names))) : gn (ownF (flat r) names) i = x := by
  have hi : i < (flat r).ps.length := by
    rw [flat_ps, ← subR_len]; exact (List.getElem?_eq_some_iff.1 hs).1
  apply Nat.eq_of_testBit_eq
  intro b
  rw [Bool.eq_iff_iff, (own_bits (pOk_flat r) names).2 i hi b, under_flat hs]
  constructor
  · rintro ⟨nm, hm, hb⟩
    obtain ⟨q, hq, rfl⟩ := List.mem_map.1 (hl.mem_iff.1 hm)
    obtain ⟨h1, h2⟩ := mem_bitsN.1 hq
    rw [nmIx_gs h h1] at hb
    subst hb; exact h2
  · intro hb
    have h1 := hx b hb
    exact ⟨gs names b, hl.mem_iff.2 (List.mem_map.2 ⟨b, mem_bitsN.2 ⟨h1, hb⟩, rfl⟩), nmIx_gs h h1⟩
theorem far_lt (h : ShOk names l) {k : Nat} (hk : k < l.length) : ∀ b, (ofS (gg l k).src).testBit b = true → b < names.length := fun b hb => by
  have := h.far k hk _ ((h.bits hk).1 hb); omega
/-- Each group has a part in Tree's tree. -/
theorem group_part (h0 : shErr names l = 0) {k : Nat} (hk : k < l.length) : ∃ s ∈ subR (finR names l), (leafR s).Perm ((bitsN names.length (ofS (gg l k).src)).map (gs names)) := by
  have h := shErr_ok h0
  have hsrc := ((gcErr_zero h.gc).2 k hk).2.2.2
  have hb := src_bits (n := names.length) hsrc (fun x hx => h.far k hk x hx)
  obtain ⟨_, hpos, _⟩ := srcOk_small hsrc
  by_cases h1 : names.length = 1
  · obtain ⟨hl, _, _⟩ := finR_ok h0
    refine ⟨finR names l, by cases hf : finR names l with | node nm ks => rw [subR]; simp, hl.trans ?_⟩
    have h2 : (bitsN names.length (ofS (gg l k).src)).length = (gg l k).src.length := by
      have := congrArg List.length hb
      rw [List.length_map] at this; exact this.symm
    have h3 : bitsN names.length (ofS (gg l k).src) = [0] := by
      have h4 : ∀ q ∈ bitsN names.length (ofS (gg l k).src), q = 0 := fun q hq => by have := (mem_bitsN.1 hq).1; omega
      have h5 : (bitsN names.length (ofS (gg l k).src)).length ≤ 1 := by
        unfold bitsN
        refine Nat.le_trans (List.length_filter_le _ _) ?_
        simp [h1]
      cases hbn : bitsN names.length (ofS (gg l k).src) with
      | nil => rw [hbn] at h2; simp at h2; omega
      | cons a q =>
        rw [hbn] at h4 h5
        have : q = [] := by simp at h5; exact h5
        subst this
        rw [h4 a (by simp)]
    rw [h3]
    have : names = [gs names 0] := by
      refine List.ext_getElem (by simp [h1]) fun i i1 i2 => ?_
      obtain rfl : i = 0 := by omega
      simp [gs, i1]
    rw [this]; exact List.Perm.refl _
  · have h2 : 2 ≤ names.length := by have := h.pos; omega
    have hfin : finR names l = sortR (shR names l) := by unfold finR; rw [if_neg h1]
    have key : ∀ q ∈ subR (shR names l), ∀ m, (leafR q).Perm m → ∃ s ∈ subR (finR names l), (leafR s).Perm m := fun q hq m hm => by
      rw [hfin]
      exact ⟨sortR q, (subR_sort _).mem_iff.2 (List.mem_map.2 ⟨q, hq, rfl⟩), (leafR_sort q).trans hm⟩
    have hself : shR names l ∈ subR (shR names l) := by cases hf : shR names l with | node nm ks => rw [subR]; simp
    obtain ⟨hl, hpt⟩ := shR_ok h h2
    by_cases e1 : (gg l k).src.length = 1
    · obtain ⟨a, ha⟩ : ∃ a, (gg l k).src = [a] := List.length_eq_one_iff.1 e1
      rw [ha] at hb
      have hbl := congrArg List.length hb
      rw [List.length_map] at hbl
      obtain ⟨q, hq⟩ : ∃ q, bitsN names.length (ofS [a]) = [q] := List.length_eq_one_iff.1 hbl.symm
      have hqn : q < names.length := (mem_bitsN.1 (show q ∈ bitsN names.length (ofS [a]) by rw [hq]; simp)).1
      have hm : gs names q ∈ leafR (shR names l) := hl.mem_iff.2 (by simp [gs, hqn])
      refine key _ (leaf_part hpt hm) _ ?_
      rw [ha, hq, leafR_leaf (named_size (h.nm q hqn))]; exact List.Perm.refl _
    · by_cases e2 : ofS (gg l k).src = allN names.length
      · refine key _ hself _ ?_
        rw [e2, all_bits, range_gs]; exact hl
      · have hm : ofS (gg l k).src ∈ innL l (allN names.length) := innK_has hk (by omega) e2
        have hL := h.lam
        obtain ⟨e, he, hs⟩ := set_part (names := names) hL.u (allN names.length + 1) (allN names.length) _ (by omega) (all_u64 h.le) hm
          ((withinB_iff (hL.u _ hm) (all_u64 h.le)).2 fun i hi => all_bit (hL.sub _ hm i hi))
        exact key _ hs _ (growR_ok h.le h.nm hL e _ he (hL.u _ hm) (hL.sub _ hm) (hL.two _ hm)).1
theorem lvs_count (ns : List ByteArray) : (leavesL ns).length = (fltN ns).length := by
  unfold leavesL
  rw [List.length_map]
  have h : ∀ k, k ≤ ns.length → ((List.range k).filter fun i => (gs ns i).size ≠ 0).length = (fltN (ns.take k)).length := by
    intro k
    induction k with
    | zero => intro _; rfl
    | succ k ih =>
      intro hk
      have hg : gs ns k = ns[k] := by simp [gs, show k < ns.length by omega]
      rw [List.range_succ, List.filter_append, List.length_append, ih (by omega), List.take_succ_eq_append_getElem (show k < ns.length by omega), fltN_app, List.length_append, ← hg]
      congr 1
      unfold fltN
      by_cases e : (gs ns k).size ≠ 0
      · rw [List.filter_cons_of_pos (by simpa using e), List.filter_cons_of_pos (by simpa using e)]; rfl
      · rw [List.filter_cons_of_neg (by simpa using e), List.filter_cons_of_neg (by simpa using e)]; rfl
  have := h ns.length (Nat.le_refl _)
  rw [List.take_length] at this
  exact this
theorem shErr_far (h : shErr names l = 0) : farB l names.length = false ∧ cfL l = [] := by
  unfold shErr at h
  split at h
  · cases h
  · split at h
    · cases h
    · split at h
      · rename_i h3; exact absurd h h3
      · split at h
        · rename_i h4; exact absurd h h4
        · split at h
          · cases h
          · rename_i h5
            split at h
            · cases h
            · rename_i h6
              exact ⟨by simpa using h5, Classical.not_not.1 h6⟩
theorem mpL_nodup (h : ShOk names l) : (mpL names).length = names.length := mpK_nodup.2 fun i j h1 h2 e => h.nd i j h1 h2 e.symm
/-- Consistent accepts Tree's tree, and finds no group that is not in it. -/
theorem con_tree (h0 : shErr names l = 0) : conErr (shTree names l) names l = 0 ∧ conL (shTree names l) names l = [] := by
  have h := shErr_ok h0
  obtain ⟨t1, _, t3, _⟩ := shTree_law h0
  have hlv : (leavesL (shTree names l).ns).length = names.length := by rw [lvs_count]; exact t3.length_eq
  have hall : ∀ j, j < names.length → csBad (shTree names l) names j = false := fun j hj => by
    have hm : gi (leavesL (shTree names l).ns) j ∈ leavesL (shTree names l).ns := by simp [gi, show j < (leavesL (shTree names l).ns).length by omega]
    obtain ⟨q, hq, hql, hqs⟩ := mem_leavesL.1 hm
    have h1 : gs (shTree names l).ns q ∈ fltN (shTree names l).ns := List.mem_filter.2 ⟨by simp [gs, hql], by simpa using hqs⟩
    obtain ⟨i, hi, e⟩ := List.getElem_of_mem (t3.mem_iff.1 h1)
    have h2 : ((mpL names).lookup (gs (shTree names l).ns q)).isSome = true := mpK_some.2 ⟨i, hi, by simp [gs, hi, e]⟩
    unfold csBad
    rw [hq, show ((q : Nat) : Int).toNat = q by omega, h2, mpL_nodup h]; simp
  have hE : conErr (shTree names l) names l = 0 := by
    rw [con_tail t1 hlv hall, if_neg (by simp [h.gc]), (shErr_far h0).1]; rfl
  refine ⟨hE, ?_⟩
  unfold conL
  rw [if_neg (by simp [hE])]
  have key : ∀ k, k ≤ l.length → conK (shTree names l) names l k = [] := by
    intro k
    induction k with
    | zero => intro _; rfl
    | succ k ih =>
      intro hk
      obtain ⟨s, hs, hp⟩ := group_part h0 (show k < l.length by omega)
      obtain ⟨i, hi, e⟩ := List.getElem_of_mem hs
      have hat : (subR (finR names l))[i]? = some s := by rw [List.getElem?_eq_getElem hi, e]
      have hown := part_own h hat (far_lt h (show k < l.length by omega)) hp
      have hmem : ofS (gg l k).src ∈ ownF (shTree names l) names := by
        rw [shTree_fin h0, ← hown]
        refine gn_mem ?_
        rw [(own_bits (pOk_flat _) names).1, flat_ps, ← subR_len]; exact hi
      rw [conK, ih (by omega)]
      unfold conOne
      rw [if_pos hmem]; rfl
  exact key _ (Nat.le_refl _)
theorem sortL_of {a b : List Int} (h : a.Perm b) (hb : b.Pairwise (· < ·)) : sortL a = b := by
  unfold sortL
  refine List.Perm.eq_of_pairwise (le := fun a b => decide (a ≤ b) = true) (fun x y _ _ h1 h2 => ?_) (List.pairwise_mergeSort (fun a b c h1 h2 => by simp only [decide_eq_true_eq] at *; omega) (fun a b => by simp only [Bool.or_eq_true, decide_eq_true_eq]; omega) a) (hb.imp fun h => by simp only [decide_eq_true_eq]; omega) ((List.mergeSort_perm a _).trans h)
  simp only [decide_eq_true_eq] at h1 h2; omega
theorem oneN_leaf {r : RT} (h : ∀ nm ∈ leafR r, nm.size = 1) : oneN (nsR r) = (leafR r).map lvNum := by
  unfold oneN leafR
  congr 1
  refine List.filter_congr fun nm hm => ?_
  by_cases e : nm.size = 0
  · simp [e]
  · have := h nm (List.mem_filter.2 ⟨hm, by simpa using e⟩)
    simp [this]
/-- Below the root, what has more than one leaf is a group. -/
theorem part_group (h0 : shErr names l = 0) (h1 : ∀ q, q < names.length → (gs names q).size = 1 ∧ lvNum (gs names q) = q) {i : Nat} (hi0 : 0 < i) (hi : i < (shTree names l).ps.length) (h2 : 1 < (lvL (shTree names l) i).length) :
    ∃ k, k < l.length ∧ (gg l k).src = lvL (shTree names l) i := by
  have h := shErr_ok h0
  rw [shTree_fin h0, flat_ps] at hi
  have hi2 : i < (subR (finR names l)).length := by rw [subR_len]; exact hi
  obtain ⟨s, hs⟩ : ∃ s, (subR (finR names l))[i]? = some s := ⟨_, List.getElem?_eq_getElem hi2⟩
  have hlv : lvL (shTree names l) i = sortL (oneN (nsR s)) := by
    unfold lvL; rw [shTree_fin h0, lvK_flat hs]
  rw [hlv] at h2 ⊢
  rw [sortL_len] at h2
  by_cases e1 : names.length = 1
  · exfalso
    unfold finR at hi
    rw [if_pos e1, sizeR, sizeRs] at hi; omega
  · have hfin : finR names l = sortR (shR names l) := by unfold finR; rw [if_neg e1]
    have hn2 : 2 ≤ names.length := by have := h.pos; omega
    have htail : ∃ q ∈ subRs (shR names l).kids, s = sortR q := by
      rw [hfin] at hs
      cases hsh : shR names l with
      | node nm ks =>
        rw [hsh, sortR, subR] at hs
        obtain ⟨m, rfl⟩ : ∃ m, i = m + 1 := ⟨i - 1, by omega⟩
        rw [List.getElem?_cons_succ] at hs
        have hm := List.mem_of_getElem? hs
        have hp : (subRs (sortRs ks)).Perm ((subRs ks).map sortR) := (subRs_perm (sortRs_perm ks)).trans (subRs_sort ks)
        obtain ⟨q, hq, e⟩ := List.mem_map.1 (hp.mem_iff.1 hm)
        exact ⟨q, hq, e.symm⟩
    obtain ⟨q, hq, rfl⟩ := htail
    have hL := h.lam
    have hperm : (oneN (nsR (sortR q))).Perm (oneN (nsR q)) := ((nsR_sort q).filter (fun s : ByteArray => decide (s.size = 1))).map lvNum
    have hlen : (oneN (nsR (sortR q))).length = (oneN (nsR q)).length := hperm.length_eq
    rcases subs_grow names (innL l (allN names.length)) (allN names.length + 1) (allN names.length) q hL.u (all_u64 h.le) (by omega) hq with ⟨a, ha, rfl⟩ | ⟨y, e, hy, hye, rfl⟩
    · exfalso
      rw [hlen, nsR, nsRs] at h2
      have : (oneN [gs names a]).length ≤ 1 := by unfold oneN; rw [List.length_map]; exact Nat.le_trans (List.length_filter_le _ _) (by simp)
      omega
    · obtain ⟨k, hk, rfl, _, _⟩ := innK_mem hy
      refine ⟨k, hk, ?_⟩
      obtain ⟨hg, _⟩ := growR_ok h.le h.nm hL e _ hye (hL.u _ hy) (hL.sub _ hy) (hL.two _ hy)
      have hsrc := ((gcErr_zero h.gc).2 k hk).2.2.2
      have hb := src_bits (n := names.length) hsrc (fun x hx => h.far k hk x hx)
      have hone : ∀ nm ∈ leafR (growR names (innL l (allN names.length)) e (ofS (gg l k).src)), nm.size = 1 := fun nm hm => by
        obtain ⟨q, hq, rfl⟩ := List.mem_map.1 (hg.mem_iff.1 hm)
        exact (h1 q (mem_bitsN.1 hq).1).1
      have hmap : ((bitsN names.length (ofS (gg l k).src)).map (gs names)).map lvNum = (gg l k).src := by
        rw [List.map_map]
        conv => rhs; rw [hb]
        exact List.map_congr_left fun q hq => (h1 q (mem_bitsN.1 hq).1).2
      have hp2 : (oneN (nsR (sortR (growR names (innL l (allN names.length)) e (ofS (gg l k).src))))).Perm (gg l k).src := by
        refine hperm.trans ?_
        rw [oneN_leaf hone]
        have := hg.map lvNum
        rw [hmap] at this; exact this
      refine (sortL_of hp2 ?_).symm
      rw [hb, List.pairwise_map]
      exact (bits_asc _ _).imp fun h => Int.ofNat_lt.2 h
end
end Go.Proofs.YtgjcfkadioblfaaGreat
namespace Go.Proofs.YtgjcfkadioblfaaGreat
theorem hit_root {ps : List Int} (hp : pOkB ps = true) : ∀ (d i : Nat), i ≤ d → i < ps.length → climb ps 0 i i = 0 := by
  intro d
  induction d with
  | zero =>
    intro i hi _
    obtain rfl : i = 0 := by omega
    exact climb_stop (n := 0) (k := 0) (Nat.lt_irrefl 0)
  | succ d ih =>
    intro i hi hl
    by_cases h0 : 0 < i
    · have hpar := pOkB_par hp hl h0
      rw [climb_step hp hl h0]
      exact ih _ (by omega) (by omega)
    · obtain rfl : i = 0 := by omega
      exact climb_stop (n := 0) (k := 0) (Nat.lt_irrefl 0)
theorem bwK_zero {t : Tre} (hp : pOkB t.ps = true) (hl : t.ns.length = t.ps.length) : ∀ m, m ≤ t.ps.length → bwK t 0 m = fltN (t.ns.take m)
  | 0, _ => by rw [bwK, List.take_zero]; rfl
  | m + 1, h => by
    have hm : m < t.ns.length := by omega
    have hg : gs t.ns m = t.ns[m] := by simp [gs, hm]
    rw [bwK, bwK_zero hp hl m (by omega), List.take_succ_eq_append_getElem hm, fltN_app, ← hg]
    congr 1
    unfold bwOne hitB fltN
    rw [Nat.zero_add, hit_root hp m m (Nat.le_refl _) (by omega)]
    have hf : [gs t.ns m].filter (fun s => decide (s.size ≠ 0)) = if decide ((gs t.ns m).size ≠ 0) = true then [gs t.ns m] else [] := by
      rw [List.filter_cons]; rfl
    rw [hf]
    generalize decide ((gs t.ns m).size ≠ 0) = c
    cases c <;> rfl
theorem bwL_zero {t : Tre} (h : treeErr t = 0) : bwL t 0 = fltN t.ns := by
  obtain ⟨_, _, hl, hp, _⟩ := treeErr_zero h
  unfold bwL
  rw [bwK_zero hp hl _ (by omega), Nat.sub_zero, ← hl, List.take_length]
/-- How many of the first names equal s. -/
def eqK (names : List ByteArray) (s : ByteArray) : Nat → Nat
  | 0 => 0
  | k + 1 => eqK names s k + if gs names k = s then 1 else 0
theorem eqK_le (names : List ByteArray) (s : ByteArray) : ∀ k, eqK names s k ≤ k
  | 0 => Nat.le_refl _
  | k + 1 => by have := eqK_le names s k; rw [eqK]; split <;> omega
theorem eqK_count (names : List ByteArray) (s : ByteArray) : ∀ k, k ≤ names.length → eqK names s k = ((names.take k).filter fun x => decide (x = s)).length
  | 0, _ => rfl
  | k + 1, h => by
    have hg : gs names k = names[k] := by simp [gs, show k < names.length by omega]
    rw [eqK, eqK_count names s k (by omega), List.take_succ_eq_append_getElem (show k < names.length by omega), List.filter_append, List.length_append, ← hg]
    congr 1
    by_cases e : gs names k = s <;> simp [e]
/-- A name that stands once: for lists without doubles, membership. -/
theorem eqK_nodup {names : List ByteArray} (hn : names.Nodup) (s : ByteArray) : eqK names s names.length = 1 ↔ s ∈ names := by
  rw [eqK_count names s _ (Nat.le_refl _), List.take_length]
  constructor
  · intro h
    obtain ⟨x, hx⟩ := List.exists_mem_of_length_pos (by rw [h]; exact Nat.one_pos)
    have := List.mem_filter.1 hx
    rw [← of_decide_eq_true this.2]; exact this.1
  · intro h
    induction names with
    | nil => cases h
    | cons a l ih =>
      rw [List.nodup_cons] at hn
      by_cases e : a = s
      · subst e
        rw [List.filter_cons_of_pos (by simp), List.length_cons]
        have : (l.filter fun x => decide (x = a)) = [] := by
          rw [List.filter_eq_nil_iff]
          intro x hx q
          exact hn.1 (by rw [← of_decide_eq_true q]; exact hx)
        rw [this]; rfl
      · rw [List.filter_cons_of_neg (by simp [e])]
        exact ih hn.2 ((List.mem_cons.1 h).resolve_left fun q => e q.symm)
theorem perm_of_sub : ∀ {p q : List ByteArray}, p.Nodup → (∀ x ∈ p, x ∈ q) → q.length ≤ p.length → p.Perm q
  | [], q, _, _, h => by
    have : q = [] := List.eq_nil_of_length_eq_zero (by simpa using h)
    rw [this]
  | x :: p, q, hn, hs, hl => by
    rw [List.nodup_cons] at hn
    have hx := hs x (by simp)
    obtain ⟨a, b, rfl⟩ := List.append_of_mem hx
    have h1 : p.Perm (a ++ b) := perm_of_sub hn.2 (fun y hy => by
      have h2 := hs y (by simp [hy])
      rw [List.mem_append, List.mem_cons] at h2
      rw [List.mem_append]
      rcases h2 with h2 | h2 | h2
      · exact .inl h2
      · exact absurd (by rw [← h2]; exact hy) hn.1
      · exact .inr h2) (by
      rw [List.length_append, List.length_cons, List.length_cons] at hl
      rw [List.length_append]; omega)
    exact (h1.cons x).trans List.perm_middle.symm
theorem flt_nodup {t : Tre} (h : treeErr t = 0) : (fltN t.ns).Nodup := by
  obtain ⟨_, _, hl, _, he⟩ := treeErr_zero h
  unfold fltN
  rw [List.Nodup, List.pairwise_filter, List.pairwise_iff_getElem]
  intro i j hi hj hij h1 h2 e
  have hgi : gs t.ns i = t.ns[i] := by simp [gs, hi]
  have hgj : gs t.ns j = t.ns[j] := by simp [gs, hj]
  have hz : (gs t.ns j).size ≠ 0 := by rw [hgj]; exact of_decide_eq_true h2
  have hn := he j (by omega)
  have h3 : seenK t.ns j = true := List.any_eq_true.2 ⟨i, List.mem_range.2 hij, decide_eq_true (by rw [hgi, hgj, e])⟩
  unfold nErr at hn
  by_cases c1 : isIn t.ps j = true
  · rw [if_pos c1, if_neg hz] at hn; cases hn
  · rw [if_neg c1] at hn
    by_cases c2 : namedB (gs t.ns j).data.toList = true
    · rw [if_pos c2, if_pos h3] at hn; cases hn
    · rw [if_neg c2] at hn; cases hn
/-- The leaves' names against the given names: the reference's test and the map's say the same. -/
theorem rn_iff {t : Tre} {names : List ByteArray} (h : treeErr t = 0) (hlen : (leavesL t.ns).length = names.length) :
    (∀ s ∈ fltN t.ns, eqK names s names.length = 1) ↔ ∀ j, j < names.length → csBad t names j = false := by
  have hfl : (fltN t.ns).length = names.length := by rw [← lvs_count, hlen]
  constructor
  · intro hc j hj
    have hmem : ∀ s ∈ fltN t.ns, s ∈ names := fun s hs => by
      have h1 := hc s hs
      rw [eqK_count names s _ (Nat.le_refl _), List.take_length] at h1
      obtain ⟨x, hx⟩ := List.exists_mem_of_length_pos (by rw [h1]; exact Nat.one_pos)
      have := List.mem_filter.1 hx
      rw [← of_decide_eq_true this.2]; exact this.1
    have hp := perm_of_sub (flt_nodup h) hmem (by omega)
    have hnd : names.Nodup := hp.nodup_iff.1 (flt_nodup h)
    have hmp : (mpL names).length = names.length := mpK_nodup.2 fun a b hab hb e => by
      rw [List.Nodup, List.pairwise_iff_getElem] at hnd
      exact hnd a b (by omega) hb hab (by simpa [gs, hb, show a < names.length by omega] using e)
    have hm : gi (leavesL t.ns) j ∈ leavesL t.ns := by simp [gi, show j < (leavesL t.ns).length by omega]
    obtain ⟨q, hq, hql, hqs⟩ := mem_leavesL.1 hm
    have h1 : gs t.ns q ∈ fltN t.ns := List.mem_filter.2 ⟨by simp [gs, hql], by simpa using hqs⟩
    obtain ⟨i, hi, e⟩ := List.getElem_of_mem (hmem _ h1)
    have h2 : ((mpL names).lookup (gs t.ns q)).isSome = true := mpK_some.2 ⟨i, hi, by simp [gs, hi, e]⟩
    unfold csBad
    rw [hq, show ((q : Nat) : Int).toNat = q by omega, h2, hmp]; simp
  · intro hb s hs
    obtain ⟨hm, hz⟩ := List.mem_filter.1 hs
    obtain ⟨q, hq, e⟩ := List.getElem_of_mem hm
    have hg : gs t.ns q = s := by simp [gs, hq, e]
    have hs2 := names_sub hlen hb (q := q) hq (by rw [hg]; exact of_decide_eq_true hz)
    rw [hg] at hs2
    obtain ⟨i, hi, e2⟩ := mpK_some.1 hs2
    have h0 := hb 0 (by omega)
    unfold csBad at h0
    simp only [Bool.or_eq_false_iff, decide_eq_false_iff_not] at h0
    have hmp : (mpL names).length = names.length := Classical.not_not.1 h0.2
    have hnd : names.Nodup := by
      rw [List.Nodup, List.pairwise_iff_getElem]
      intro a b ha hb' hab e3
      exact mpK_nodup.1 hmp a b hab hb' (by simp [gs, ha, hb', e3])
    exact (eqK_nodup hnd s).2 (by rw [← e2]; simp [gs, hi])
theorem mem_bwK {t : Tre} {n : Nat} {s : ByteArray} : ∀ {m : Nat}, s ∈ bwK t n m ↔ ∃ j, n ≤ j ∧ j < n + m ∧ hitB t.ps n j = true ∧ (gs t.ns j).size ≠ 0 ∧ gs t.ns j = s
  | 0 => by
    constructor
    · intro h; cases h
    · rintro ⟨j, h1, h2, _⟩; omega
  | m + 1 => by
    rw [bwK, List.mem_append, mem_bwK (m := m)]
    have h1 : s ∈ bwOne t n (n + m) ↔ hitB t.ps n (n + m) = true ∧ (gs t.ns (n + m)).size ≠ 0 ∧ gs t.ns (n + m) = s := by
      unfold bwOne
      by_cases c1 : hitB t.ps n (n + m) = true
      · by_cases c2 : (gs t.ns (n + m)).size ≠ 0
        · rw [if_pos (by rw [c1, decide_eq_true c2]; rfl), List.mem_singleton]
          exact ⟨fun e => ⟨c1, c2, e.symm⟩, fun e => e.2.2.symm⟩
        · rw [if_neg (by rw [decide_eq_false c2]; simp)]
          exact ⟨(fun e => by cases e), fun e => absurd e.2.1 c2⟩
      · rw [if_neg (by simp [c1])]
        exact ⟨(fun e => by cases e), fun e => absurd e.1 c1⟩
    rw [h1]
    constructor
    · rintro (⟨j, a1, a2, a3⟩ | h)
      · exact ⟨j, a1, by omega, a3⟩
      · exact ⟨n + m, by omega, by omega, h⟩
    · rintro ⟨j, a1, a2, a3⟩
      by_cases e : j = n + m
      · subst e; exact .inr a3
      · exact .inl ⟨j, a1, by omega, a3⟩
theorem mem_bwL {t : Tre} (hp : pOkB t.ps = true) {n : Nat} (hn : n < t.ps.length) {s : ByteArray} : s ∈ bwL t n ↔ ∃ j, j < t.ps.length ∧ hitB t.ps n j = true ∧ (gs t.ns j).size ≠ 0 ∧ gs t.ns j = s := by
  unfold bwL
  rw [mem_bwK]
  constructor
  · rintro ⟨j, _, h2, h3⟩; exact ⟨j, by omega, h3⟩
  · rintro ⟨j, h2, h3⟩; exact ⟨j, hit_le hp h2 h3.1, by omega, h3⟩
theorem bwK_sub {t : Tre} (hl : t.ns.length = t.ps.length) {n : Nat} : ∀ m, n + m ≤ t.ps.length → (bwK t n m).Sublist (fltN (t.ns.take (n + m)))
  | 0, _ => List.nil_sublist _
  | m + 1, h => by
    have hm : n + m < t.ns.length := by omega
    have hg : gs t.ns (n + m) = t.ns[n + m] := by simp [gs, hm]
    rw [bwK, ← Nat.add_assoc, List.take_succ_eq_append_getElem hm, fltN_app, ← hg]
    refine (bwK_sub hl m (by omega)).append ?_
    have hf : fltN [gs t.ns (n + m)] = if decide ((gs t.ns (n + m)).size ≠ 0) = true then [gs t.ns (n + m)] else [] := by
      unfold fltN; rw [List.filter_cons]; rfl
    rw [hf]
    unfold bwOne
    generalize decide ((gs t.ns (n + m)).size ≠ 0) = c
    cases c
    · rw [if_neg (by simp)]; exact List.nil_sublist _
    · split
      · exact List.Sublist.refl _
      · exact List.nil_sublist _
theorem bwL_nodup {t : Tre} (h : treeErr t = 0) {n : Nat} (hn : n < t.ps.length) : (bwL t n).Nodup := by
  obtain ⟨_, _, hl, _, _⟩ := treeErr_zero h
  have h1 := bwK_sub hl (n := n) (t.ps.length - n) (by omega)
  rw [show n + (t.ps.length - n) = t.ns.length by omega, List.take_length] at h1
  exact h1.nodup (flt_nodup h)
/-- A group's set is a node's: the reference's test and the numbers' say the same. -/
theorem found_iff {t : Tre} {names : List ByteArray} {src : List Int} (h : treeErr t = 0) (hlen : (leavesL t.ns).length = names.length) (hb : ∀ j, j < names.length → csBad t names j = false)
    (hnd : names.Nodup) (hs : srcOk src = true) (hfar : ∀ x ∈ src, x < names.length) :
    (∃ n, n < t.ps.length ∧ (bwL t n).length = src.length ∧ ∀ x ∈ src, gs names x.toNat ∈ bwL t n) ↔ ofS src ∈ ownF t names := by
  obtain ⟨_, _, hl, hp, _⟩ := treeErr_zero h
  have hsm := (srcOk_small hs).1
  have hsn := src_nodup hs
  have hinj : ∀ a b, a < names.length → b < names.length → gs names a = gs names b → a = b := fun a b ha hb' e => by
    rw [List.Nodup, List.pairwise_iff_getElem] at hnd
    rcases Nat.lt_trichotomy a b with c | c | c
    · exact absurd (by simpa [gs, ha, hb'] using e) (hnd a b ha hb' c)
    · exact c
    · exact absurd (by simpa [gs, ha, hb'] using e.symm) (hnd b a hb' ha c)
  have hix : ∀ q, q < names.length → nmIx names (gs names q) = q := fun q hq => by
    obtain ⟨_, h2, h3⟩ := nmIx_at (mpK_some.2 ⟨q, hq, rfl⟩ : ((mpL names).lookup (gs names q)).isSome = true)
    exact hinj _ _ h2 hq h3
  have hnat : ∀ x ∈ src, ∃ q : Nat, x = q ∧ q < names.length ∧ q < 32 := fun x hx => by
    obtain ⟨q, rfl, hq⟩ := small_mem hsm hx
    exact ⟨q, rfl, by have := hfar _ hx; omega, hq⟩
  have hmap : (src.map fun x => gs names x.toNat).Nodup := by
    rw [List.Nodup, List.pairwise_map]
    refine List.Pairwise.imp_of_mem ?_ hsn
    intro a b ha hb' hab e
    obtain ⟨q, rfl, hq, _⟩ := hnat a ha
    obtain ⟨r, rfl, hr, _⟩ := hnat b hb'
    have := hinj q r hq hr e
    subst this; exact hab rfl
  have hown := own_bits hp names
  have key : ∀ n, n < t.ps.length → ((bwL t n).Perm (src.map fun x => gs names x.toNat) ↔ gn (ownF t names) n = ofS src) := fun n hn => by
    have hbit : ∀ b, (gn (ownF t names) n).testBit b = true ↔ ∃ s ∈ bwL t n, nmIx names s = b := fun b => by
      rw [hown.2 n hn b]
      constructor
      · rintro ⟨j, h1, h2, h3, h4⟩; exact ⟨_, (mem_bwL hp hn).2 ⟨j, h1, h3, h2, rfl⟩, h4⟩
      · rintro ⟨s, h1, h4⟩
        obtain ⟨j, a1, a2, a3, rfl⟩ := (mem_bwL hp hn).1 h1
        exact ⟨j, a1, a3, a2, h4⟩
    constructor
    · intro hp2
      apply Nat.eq_of_testBit_eq
      intro b
      rw [Bool.eq_iff_iff, hbit, testBit_ofS hsm]
      constructor
      · rintro ⟨s, h1, rfl⟩
        obtain ⟨x, hx, rfl⟩ := List.mem_map.1 (hp2.mem_iff.1 h1)
        obtain ⟨q, rfl, hq, _⟩ := hnat x hx
        show ((nmIx names (gs names q) : Nat) : Int) ∈ src
        rw [hix q hq]; exact hx
      · intro hx
        obtain ⟨q, e, hq, _⟩ := hnat _ hx
        have e : b = q := by omega
        subst e
        exact ⟨gs names b, hp2.mem_iff.2 (List.mem_map.2 ⟨(b : Int), hx, rfl⟩), hix b hq⟩
    · intro he
      rw [List.perm_ext_iff_of_nodup (bwL_nodup h hn) hmap]
      intro s
      constructor
      · intro hs1
        obtain ⟨j, a1, a2, a3, rfl⟩ := (mem_bwL hp hn).1 hs1
        obtain ⟨_, h2, h3⟩ := nmIx_at (names_sub hlen hb (q := j) (by omega) a3)
        have h4 := (hbit _).2 ⟨_, hs1, rfl⟩
        rw [he, testBit_ofS hsm] at h4
        exact List.mem_map.2 ⟨_, h4, h3⟩
      · intro hm
        obtain ⟨x, hx, rfl⟩ := List.mem_map.1 hm
        obtain ⟨q, rfl, hq, _⟩ := hnat x hx
        have h4 := (testBit_ofS hsm q).2 hx
        rw [← he, hbit] at h4
        obtain ⟨s, hs1, hs2⟩ := h4
        obtain ⟨j, a1, a2, a3, rfl⟩ := (mem_bwL hp hn).1 hs1
        obtain ⟨_, h2, h3⟩ := nmIx_at (names_sub hlen hb (q := j) (by omega) a3)
        show gs names q ∈ _
        rw [← hs2, h3]; exact hs1
  constructor
  · rintro ⟨n, hn, hl2, hm⟩
    have hperm : (src.map fun x => gs names x.toNat).Perm (bwL t n) := perm_of_sub hmap (fun s hs1 => by
      obtain ⟨x, hx, rfl⟩ := List.mem_map.1 hs1
      exact hm x hx) (by rw [List.length_map]; omega)
    rw [← (key n hn).1 hperm.symm]
    exact gn_mem (by rw [hown.1]; exact hn)
  · intro hm
    obtain ⟨n, hn, e⟩ := List.getElem_of_mem hm
    rw [hown.1] at hn
    have hg : gn (ownF t names) n = ofS src := by simp [gn, e, hown.1, hn]
    have hperm := (key n hn).2 hg
    exact ⟨n, hn, by rw [hperm.length_eq, List.length_map], fun x hx => hperm.mem_iff.2 (List.mem_map.2 ⟨x, hx, rfl⟩)⟩
end Go.Proofs.YtgjcfkadioblfaaGreat
