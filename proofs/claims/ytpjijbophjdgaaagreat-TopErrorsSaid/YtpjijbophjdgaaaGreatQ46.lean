/- TopErrors: plain. -/
import Derived.Test.YtpjijbophjdgaaaGreatQ36
import Derived.Test.YtpjijbophjdgaaaGreatQ40
import Derived.Test.YtpjijbophjdgaaaGreatQ43
import Derived.Test.YtpjijbophjdgaaaGreatQ21
import Derived.Test.YtpjijbophjdgaaaGreatQ30
namespace Go.Proofs.YtpjijbophjdgaaaGreat
structure TeOk (names : List ByteArray) (l : List Grp) : Prop where
  n2 : 2 ≤ names.length ∧ names.length ≤ 8
  nm : ∀ k, k < names.length → namedB (gs names k).data.toList = true
  nd : ∀ j k, j < k → k < names.length → gs names k ≠ gs names j
  gc : gcErr l = 0
  two : ∀ k, k < l.length → 2 ≤ (gg l k).src.length
  bd : ∀ k, k < l.length → ∀ x ∈ (gg l k).src, 1 ≤ x ∧ x < (names.length : Int)
theorem src_set {l : List Int} (h : srcOk l = true) : SetOk l := by
  obtain ⟨hs, _, hm⟩ := srcOk_small h
  refine ⟨pair_of_next fun i hi => ?_, fun x hx => ?_⟩
  · have := hm (i + 1) (by omega) hi
    rwa [Nat.add_sub_cancel] at this
  · obtain ⟨i, rfl, hi⟩ := small_mem hs hx; omega
theorem within_src {a b : List Int} (ha : srcOk a = true) (hb : srcOk b = true) : withinB (ofS a) (ofS b) = true ↔ ∀ x ∈ a, x ∈ b := by
  obtain ⟨sa, _, _⟩ := srcOk_small ha
  obtain ⟨sb, _, _⟩ := srcOk_small hb
  rw [withinB_iff (Nat.lt_trans (ofS_lt sa) (by decide)) (Nat.lt_trans (ofS_lt sb) (by decide))]
  constructor
  · intro h x hx
    obtain ⟨i, rfl, _⟩ := small_mem sa hx
    exact (testBit_ofS sb i).1 (h i ((testBit_ofS sa i).2 hx))
  · intro h i hi
    exact (testBit_ofS sb i).2 (h _ ((testBit_ofS sa i).1 hi))
theorem apart_src {a b : List Int} (ha : srcOk a = true) (hb : srcOk b = true) : ofS a &&& ofS b = 0 ↔ ∀ x ∈ a, x ∉ b := by
  obtain ⟨sa, _, _⟩ := srcOk_small ha
  obtain ⟨sb, _, _⟩ := srcOk_small hb
  constructor
  · intro h x hx hx2
    obtain ⟨i, rfl, _⟩ := small_mem sa hx
    have h1 : (ofS a &&& ofS b).testBit i = true := by
      rw [Nat.testBit_and, (testBit_ofS sa i).2 hx, (testBit_ofS sb i).2 hx2]; rfl
    rw [h, Nat.zero_testBit] at h1
    cases h1
  · intro h
    refine Nat.eq_of_testBit_eq fun i => ?_
    rw [Nat.testBit_and, Nat.zero_testBit]
    cases h1 : (ofS a).testBit i
    · rfl
    · cases h2 : (ofS b).testBit i
      · rfl
      · exact absurd ((testBit_ofS sb i).1 h2) (h _ ((testBit_ofS sa i).1 h1))
theorem conf_comp {a b : List Int} (ha : srcOk a = true) (hb : srcOk b = true) : confB (ofS a) (ofS b) = !compB a b := by
  have hc := compB_iff (src_set ha) (src_set hb)
  rw [← apart_src ha hb, ← within_src ha hb, ← within_src hb ha] at hc
  unfold confB
  by_cases e : ofS a &&& ofS b = 0
  · rw [decide_eq_false (fun q => q e), hc.2 (.inl e)]; rfl
  · rw [decide_eq_true e]
    cases h1 : withinB (ofS a) (ofS b)
    · cases h2 : withinB (ofS b) (ofS a)
      · have : compB a b = false := by
          rw [Bool.eq_false_iff]; intro q
          rcases hc.1 q with q | q | q
          · exact e q
          · rw [h1] at q; cases q
          · rw [h2] at q; cases q
        rw [this]; rfl
      · rw [hc.2 (.inr (.inr h2))]; rfl
    · rw [hc.2 (.inr (.inl h1))]; rfl
theorem mxL_lt {l : List Int} {n : Int} (h0 : 0 < l.length) (h : ∀ x ∈ l, x < n) : mxL l < n := by
  have key : ∀ k, k ≤ l.length → mxK l k < n := by
    intro k
    induction k with
    | zero => intro _; exact h _ (gi_in h0)
    | succ k ih =>
      intro hk
      have h1 := ih (by omega)
      have h2 := h _ (gi_in (show k < l.length by omega))
      show max (mxK l k) (gi l k) < n
      omega
  exact key _ (Nat.le_refl _)
section
variable {names : List ByteArray} {l : List Grp}
theorem TeOk.src (h : TeOk names l) {k : Nat} (hk : k < l.length) : srcOk (gg l k).src = true := ((gcErr_zero h.gc).2 k hk).2.2.2
theorem TeOk.full (h : TeOk names l) {k : Nat} (hk : k < l.length) (hf : (names.length : Int) - 2 < ((gg l k).src.length : Int)) {x : Int} (h1 : 1 ≤ x) (h2 : x < (names.length : Int)) : x ∈ (gg l k).src := Classical.byContradiction fun hx => by
  have nd : ((gg l k).src).Nodup := (src_set (h.src hk)).asc.imp fun h => by omega
  have n1 : (x :: (gg l k).src).Nodup := List.nodup_cons.2 ⟨hx, nd⟩
  have hs : ∀ y ∈ x :: (gg l k).src, y ∈ (List.range (names.length - 1)).map fun (i : Nat) => ((i : Int) + 1) := fun y hy => by
    have hb : 1 ≤ y ∧ y < (names.length : Int) := by
      rcases List.mem_cons.1 hy with rfl | hy
      · exact ⟨h1, h2⟩
      · exact h.bd k hk y hy
    exact List.mem_map.2 ⟨(y - 1).toNat, List.mem_range.2 (by omega), by omega⟩
  have := n1.length_le_of_subset hs
  simp at this
  have := h.n2; omega
theorem TeOk.conf (h : TeOk names l) {i k : Nat} (hi : i < l.length) (hk : k < l.length) : cfB l i k = !compB (gg l i).src (gg l k).src := conf_comp (h.src hi) (h.src hk)
theorem TeOk.free (h : TeOk names l) {i k : Nat} (hi : i < l.length) (hk : k < l.length) (hf : (names.length : Int) - 2 < ((gg l i).src.length : Int)) : cfB l i k = false ∧ cfB l k i = false := by
  have hsub : ∀ x ∈ (gg l k).src, x ∈ (gg l i).src := fun x hx => h.full hi hf (h.bd k hk x hx).1 (h.bd k hk x hx).2
  rw [h.conf hi hk, h.conf hk hi, (compB_iff (src_set (h.src hi)) (src_set (h.src hk))).2 (.inr (.inr hsub)), (compB_iff (src_set (h.src hk)) (src_set (h.src hi))).2 (.inr (.inl hsub))]
  exact ⟨rfl, rfl⟩
theorem TeOk.spl (h : TeOk names l) {k : Nat} (hk : k < l.length) (hf : ¬ (names.length : Int) - 2 < ((gg l k).src.length : Int)) : SplOk names.length (gg l k).src :=
  ⟨by have := h.n2; omega, src_set (h.src hk), h.bd k hk, h.two k hk, by omega⟩
theorem TeOk.err (h : TeOk names l) : shErr names l = if cfL l = [] then 0 else 17 := by
  have n2 := h.n2
  have h3 : firstNZ (nmErr names) names.length = 0 := firstNZ_zero fun k hk => by
    unfold nmErr
    rw [h.nm k hk, if_neg (by decide), if_neg]
    intro hc
    obtain ⟨j, hj, e⟩ := List.any_eq_true.1 hc
    exact h.nd j k (List.mem_range.1 hj) hk (of_decide_eq_true e)
  have h4 : farB l names.length = false := by
    unfold farB
    refine any_none fun k hk => ?_
    refine decide_eq_false ?_
    intro hc
    have hm : mxL (gg l k).src < (names.length : Int) := mxL_lt (by have := h.two k hk; omega) fun x hx => (h.bd k hk x hx).2
    omega
  unfold shErr
  rw [if_neg (by omega), if_neg (by omega), if_neg (by rw [h3]; decide), if_neg (by rw [h.gc]; decide), h4, if_neg (by decide)]
  by_cases e : cfL l = []
  · rw [if_pos e, if_neg (fun q => q e)]
  · rw [if_neg e, if_pos e]
theorem te_count (ns : List ByteArray) : (leavesL ns).length = (fltN ns).length := by
  unfold leavesL
  rw [List.length_map]
  have h : ∀ k, k ≤ ns.length → ((List.range k).filter fun i => (gs ns i).size ≠ 0).length = (fltN (ns.take k)).length := by
    intro k
    induction k with
    | zero => intro _; rfl
    | succ k ih =>
      intro hk
      have hg : gs ns k = ns[k] := by simp [gs, show k < ns.length by omega]
      rw [List.range_succ, List.filter_append, List.length_append, ih (by omega), List.take_succ_eq_append_getElem (show k < ns.length by omega), fltN_app, List.length_append, ← hg]
      congr 1
      unfold fltN
      by_cases e : (gs ns k).size ≠ 0
      · rw [List.filter_cons_of_pos (by simpa using e), List.filter_cons_of_pos (by simpa using e)]; rfl
      · rw [List.filter_cons_of_neg (by simpa using e), List.filter_cons_of_neg (by simpa using e)]; rfl
  have := h ns.length (Nat.le_refl _)
  rw [List.take_length] at this
  exact this
theorem TeOk.tree (h : TeOk names l) (h0 : shErr names l = 0) : shTree names l = flat (sortR (shR names l)) ∧ (leafR (sortR (shR names l))).Perm names ∧ OfOk (shTree names l) names ∧ shRes names l = 0 := by
  have n2 := h.n2
  have hk := shErr_ok h0
  obtain ⟨ht, hr⟩ := shTree_two h0 n2.1
  obtain ⟨hl, _⟩ := shR_ok hk n2.1
  have hlp := (leafR_sort (shR names l)).trans hl
  have hg := (shR_good hk n2.1).sort
  have hsz : sizeR (sortR (shR names l)) ≤ 63 := by rw [sizeR_sort]; have := shR_size hk n2.1; omega
  refine ⟨ht, hlp, ⟨?_, by omega, h.nd, ?_, ?_⟩, hr⟩
  · rw [ht]; exact treeErr_flat hg (by omega)
  · rw [ht, te_count]; exact hlp.length_eq
  · intro j hj hs
    rw [ht] at hj hs ⊢
    have hjn : j < (flat (sortR (shR names l))).ns.length := by rw [flat_ns]; rw [flat_ps] at hj; exact hj
    have hm : gs (flat (sortR (shR names l))).ns j ∈ leafR (sortR (shR names l)) := by
      unfold leafR
      refine List.mem_filter.2 ⟨?_, by simpa using hs⟩
      show gs (nsR (sortR (shR names l))) j ∈ nsR (sortR (shR names l))
      have hjn : j < (nsR (sortR (shR names l))).length := hjn
      simp [gs, hjn]
    obtain ⟨b, hb, e⟩ := List.getElem_of_mem (hlp.mem_iff.1 hm)
    exact ⟨b, hb, by rw [← e]; simp [gs, hb]⟩
theorem te_inn {l : List Grp} {all k : Nat} (h1 : 1 < (gg l k).src.length) (h2 : ofS (gg l k).src ≠ all) : ∀ {m : Nat}, k < m → ofS (gg l k).src ∈ innK l all m
  | 0, h => by omega
  | m + 1, h => by
    unfold innK
    by_cases e : k = m
    · subst e
      by_cases hc : ofS (gg l k).src ∈ innK l all k
      · rw [if_neg (fun q => q.2.2 hc)]; exact hc
      · rw [if_pos ⟨h1, h2, hc⟩]; simp
    · have ih := te_inn h1 h2 (show k < m by omega)
      split
      · exact List.mem_append_left _ ih
      · exact ih
theorem TeOk.lv (h : TeOk names l) {k : Nat} (hk : k < l.length) {q : RT} (hq : (leafR q).Perm ((bitsN names.length (ofS (gg l k).src)).map (gs names))) : Lv names (sortR q) (gg l k).src := fun y => by
  obtain ⟨hs, _, _⟩ := srcOk_small (h.src hk)
  rw [((leafR_sort q).trans hq).mem_iff, List.mem_map]
  constructor
  · rintro ⟨b, hb, rfl⟩
    exact ⟨b, (testBit_ofS hs b).1 (mem_bitsN.1 hb).2, rfl⟩
  · rintro ⟨b, hb, rfl⟩
    have := h.bd k hk _ hb
    exact ⟨b, mem_bitsN.2 ⟨by omega, (testBit_ofS hs b).2 hb⟩, rfl⟩
theorem TeOk.no0 (h : TeOk names l) {k : Nat} (hk : k < l.length) : splS names.length (gg l k).src = (gg l k).src := by
  unfold splS
  rw [if_neg]
  intro hc
  have := h.bd k hk _ (List.contains_iff_mem.1 hc)
  omega
theorem TeOk.mem (h : TeOk names l) (h0 : shErr names l = 0) {s : List Int} : s ∈ splO (shTree names l) names ↔ ∃ k, k < l.length ∧ (gg l k).src = s ∧ ¬ (names.length : Int) - 2 < (s.length : Int) := by
  have n2 := h.n2
  have hk0 := shErr_ok h0
  obtain ⟨ht, hlp, ho, _⟩ := h.tree h0
  have hL := hk0.lam
  have hnd : ∀ {a b : Nat}, a < names.length → b < names.length → gs names a = gs names b → a = b := fun ha hb e => nd_inj h.nd ha hb e
  rw [mem_splO ho, ht, toR_flat]
  constructor
  · rintro ⟨hs, q, hq, X, hX, bX, hLv, rfl⟩
    obtain ⟨q', hq', rfl⟩ := List.mem_map.1 ((subR_sort _).mem_iff.1 hq)
    have hlen := hs.len
    have htail : q' = shR names l ∨ q' ∈ subRs (shR names l).kids := by
      cases hsh : shR names l with
      | node nm ks =>
        rw [hsh, subR, List.mem_cons] at hq'
        exact hq'
    rcases htail with rfl | htail
    · exfalso
      have hall : ∀ b : Nat, b < names.length → (b : Int) ∈ X := fun b hb => by
        obtain ⟨b', hb', e⟩ := (hLv (gs names b)).1 (hlp.mem_iff.2 (by simp [gs, hb]))
        have hb2 := bX _ hb'
        have := hnd hb (show b' < names.length by omega) e
        subst this; exact hb'
      have h5 : splS names.length X = [] := by
        unfold splS
        rw [if_pos (show X.contains 0 = true from List.contains_iff_mem.2 (hall 0 (by omega))), List.eq_nil_iff_forall_not_mem]
        intro x hx
        obtain ⟨x0, xn, hx⟩ := mem_complL.1 hx
        obtain ⟨b, rfl⟩ := Int.eq_ofNat_of_zero_le x0
        exact hx (hall b (by omega))
      rw [h5] at hlen
      simp at hlen
    · rcases subs_grow names (innL l (allN names.length)) (allN names.length + 1) (allN names.length) q' hL.u (Nat.lt_trans (all_lt hk0.le) (by decide)) (by omega) htail with ⟨a, ha, rfl⟩ | ⟨y, e, hy, hye, rfl⟩
      · exfalso
        have hlf : leafR (sortR (.node (gs names a) [])) = [gs names a] := by
          have hp := leafR_sort (.node (gs names a) [])
          rw [leafR_leaf (named_size (h.nm a ha))] at hp
          exact List.perm_singleton.1 hp
        have hx1 : ∀ x ∈ X, x = (a : Int) := fun x hx => by
          have hb := bX _ hx
          obtain ⟨b, rfl⟩ := Int.eq_ofNat_of_zero_le hb.1
          have := (hLv (gs names b)).2 ⟨b, hx, rfl⟩
          rw [hlf, List.mem_singleton] at this
          have := hnd (show b < names.length by omega) ha this
          subst this; rfl
        by_cases hc : X.contains 0 = true
        · have ha0 := hx1 _ (List.contains_iff_mem.1 hc)
          have e : splS names.length X = complL names.length X := by unfold splS; rw [if_pos hc]
          rw [e] at hlen
          have hsub : ∀ y ∈ (List.range (names.length - 1)).map fun (i : Nat) => ((i : Int) + 1), y ∈ complL names.length X := fun y hy => by
            obtain ⟨i, hi, rfl⟩ := List.mem_map.1 hy
            have := List.mem_range.1 hi
            refine mem_complL.2 ⟨by omega, by omega, fun hx => ?_⟩
            have := hx1 _ hx; omega
          have hndp : ((List.range (names.length - 1)).map fun (i : Nat) => ((i : Int) + 1)).Nodup := by
            have hp : (List.range (names.length - 1)).Pairwise (· < ·) := List.pairwise_lt_range
            refine List.pairwise_map.2 (hp.imp fun h => ?_)
            omega
          have := hndp.length_le_of_subset hsub
          simp at this
          omega
        · have e : splS names.length X = X := by unfold splS; rw [if_neg hc]
          rw [e] at hlen
          have ndX : X.Nodup := hX.imp fun h => by omega
          have := ndX.length_le_of_subset (l₂ := [(a : Int)]) fun x hx => List.mem_singleton.2 (hx1 x hx)
          simp at this
          omega
      · obtain ⟨k, hk, rfl, _, _⟩ := innK_mem hy
        obtain ⟨hg, _⟩ := growR_ok hk0.le hk0.nm hL e _ hye (hL.u _ hy) (hL.sub _ hy) (hL.two _ hy)
        have hX2 := lv_inj h.nd hX (src_set (h.src hk)).asc bX (fun x hx => by have := h.bd k hk x hx; omega) hLv (h.lv hk hg)
        subst hX2
        rw [h.no0 hk] at hlen
        exact ⟨k, hk, (h.no0 hk).symm, by rw [h.no0 hk]; omega⟩
  · rintro ⟨k, hk, rfl, hf⟩
    have hsrc := srcOk_small (h.src hk)
    have hne : ofS (gg l k).src ≠ allN names.length := fun e => by
      have hb : (ofS (gg l k).src).testBit 0 = true := by
        rw [e]
        have hm : (0 : Nat) ∈ bitsN names.length (allN names.length) := by rw [all_bits]; exact List.mem_range.2 (by omega)
        exact (mem_bitsN.1 hm).2
      have := h.bd k hk _ ((testBit_ofS hsrc.1 0).1 hb)
      omega
    have hm : ofS (gg l k).src ∈ innL l (allN names.length) := te_inn (h.two k hk) hne hk
    have hw : withinB (ofS (gg l k).src) (allN names.length) = true := (withinB_iff (hL.u _ hm) (Nat.lt_trans (all_lt hk0.le) (by decide))).2 fun i hi => by
      have hm2 : i ∈ bitsN names.length (allN names.length) := by rw [all_bits]; exact List.mem_range.2 (hL.sub _ hm i hi)
      exact (mem_bitsN.1 hm2).2
    obtain ⟨e, he, hs⟩ := set_part (names := names) hL.u (allN names.length + 1) (allN names.length) _ (by omega) (Nat.lt_trans (all_lt hk0.le) (by decide)) hm hw
    obtain ⟨hg, _⟩ := growR_ok hk0.le hk0.nm hL e _ he (hL.u _ hm) (hL.sub _ hm) (hL.two _ hm)
    exact ⟨h.spl hk hf, sortR _, (subR_sort _).mem_iff.2 (List.mem_map.2 ⟨_, hs, rfl⟩), (gg l k).src, (src_set (h.src hk)).asc, fun x hx => by have := h.bd k hk x hx; omega, h.lv hk hg, (h.no0 hk).symm⟩
def wnK (n : Int) (l : List Grp) : Nat → List (List Int)
  | 0 => []
  | k + 1 => if n - 2 < ((gg l k).src.length : Int) then wnK n l k else if (gg l k).src ∈ wnK n l k then wnK n l k else wnK n l k ++ [(gg l k).src]
theorem mem_wnK {n : Int} {l : List Grp} {s : List Int} : ∀ {k : Nat}, s ∈ wnK n l k ↔ ∃ j, j < k ∧ (gg l j).src = s ∧ ¬ n - 2 < (s.length : Int)
  | 0 => by simp [wnK]
  | k + 1 => by
    have ih := mem_wnK (n := n) (l := l) (s := s) (k := k)
    rw [wnK]
    have step : (∃ j, j < k + 1 ∧ (gg l j).src = s ∧ ¬ n - 2 < (s.length : Int)) ↔ (∃ j, j < k ∧ (gg l j).src = s ∧ ¬ n - 2 < (s.length : Int)) ∨ ((gg l k).src = s ∧ ¬ n - 2 < (s.length : Int)) := by
      constructor
      · rintro ⟨j, hj, e⟩
        by_cases hjk : j = k
        · subst hjk; exact .inr e
        · exact .inl ⟨j, by omega, e⟩
      · rintro (⟨j, hj, e⟩ | e)
        · exact ⟨j, by omega, e⟩
        · exact ⟨k, by omega, e⟩
    rw [step, ← ih]
    by_cases h1 : n - 2 < ((gg l k).src.length : Int)
    · rw [if_pos h1]
      exact ⟨.inl, fun h => h.elim id fun ⟨e, h2⟩ => by subst e; exact absurd h1 h2⟩
    · rw [if_neg h1]
      by_cases h2 : (gg l k).src ∈ wnK n l k
      · rw [if_pos h2]
        exact ⟨.inl, fun h => h.elim id fun ⟨e, _⟩ => by subst e; exact h2⟩
      · rw [if_neg h2, List.mem_append, List.mem_singleton]
        exact ⟨fun h => h.elim .inl fun e => .inr ⟨e.symm, by subst e; exact h1⟩, fun h => h.elim .inl fun e => .inr e.1.symm⟩
theorem wnK_nodup (n : Int) (l : List Grp) : ∀ k, (wnK n l k).Nodup
  | 0 => List.nodup_nil
  | k + 1 => by
    have ih := wnK_nodup n l k
    rw [wnK]
    split
    · exact ih
    · split
      · exact ih
      · rename_i hc
        rw [List.nodup_append]
        refine ⟨ih, by simp, fun a ha b hb e => ?_⟩
        have := List.mem_singleton.1 hb
        subst e; subst this; exact hc ha
theorem wnK_len (n : Int) (l : List Grp) : ∀ k, (wnK n l k).length ≤ k
  | 0 => Nat.le_refl _
  | k + 1 => by
    have ih := wnK_len n l k
    rw [wnK]
    split
    · omega
    · split
      · omega
      · simp; omega
theorem splO_strict {t : Tre} {names : List ByteArray} : (splO t names).Pairwise ltX := by
  unfold splO
  split
  · exact ordX_strict _
  · exact List.Pairwise.nil
theorem TeOk.same (h : TeOk names l) (h0 : shErr names l = 0) : splO (shTree names l) names = sortX (wnK names.length l l.length) ∧ sortX (splO (shTree names l) names) = splO (shTree names l) names := by
  have hst := splO_strict (t := shTree names l) (names := names)
  have hle : (splO (shTree names l) names).Pairwise leX := hst.imp fun {a b} h => by unfold ltX at h; unfold leX; omega
  have hnd : (splO (shTree names l) names).Nodup := hst.imp fun {x y} h1 e => by subst e; unfold ltX at h1; rw [cmpL_self] at h1; omega
  refine ⟨sortX_uniq ((List.perm_ext_iff_of_nodup hnd (wnK_nodup _ _ _)).2 fun s => ?_) hle, (sortX_uniq (List.Perm.refl _) hle).symm⟩
  rw [h.mem h0, mem_wnK]
end
theorem mem_sigK {l : List Grp} {g : Grp} : ∀ {k : Nat}, k ≤ l.length → g ∈ sigK l k → g ∈ l ∧ 1 < g.src.length
  | 0, _, h => by cases h
  | k + 1, hk, h => by
    rw [sigK] at h
    split at h
    · rename_i hc
      rcases List.mem_append.1 h with h | h
      · exact mem_sigK (by omega) h
      · have e := List.mem_singleton.1 h
        subst e
        refine ⟨?_, hc⟩
        have : gg l k = l[k] := by simp [gg, show k < l.length by omega]
        rw [this]; exact List.getElem_mem _
    · exact mem_sigK (by omega) h
theorem te_groups {xs : List (List Int)} {names : List ByteArray} (hag : agErr xs = 0) (h2 : 2 ≤ xs.length) (h8 : xs.length ≤ 8) (h6 : (gl xs 0).length ≤ 6) (hl : names.length = xs.length)
    (hnm : ∀ k, k < names.length → namedB (gs names k).data.toList = true) (hnd : ∀ j k, j < k → k < names.length → gs names k ≠ gs names j) :
    orErr xs 0 = 0 ∧ orN xs 0 = gl xs 0 ∧ grErr xs (gl xs 0) = 0 ∧ (groupsN xs (gl xs 0)).length ≤ 96 ∧ TeOk names (sigK (groupsN xs (gl xs 0)) (groupsN xs (gl xs 0)).length) := by
  have e1 : orErr xs 0 = 0 := by
    unfold orErr
    rw [if_neg (by rw [hag]; decide), if_neg (by omega)]
  have e2 : orN xs 0 = gl xs 0 := by unfold orN; rw [if_pos e1]; rfl
  have e3 : grErr xs (gl xs 0) = 0 := by
    unfold grErr
    rw [if_neg (by rw [hag]; decide), if_neg (by unfold plN; omega), agRow_ok hag (by omega), if_neg (by decide)]
  have e4 : groupsN xs (gl xs 0) = unK xs (gl xs 0) (gl xs 0).length := by unfold groupsN; rw [if_pos e3]
  have e5 : (groupsN xs (gl xs 0)).length ≤ 96 := by rw [e4]; have := unK_len xs (gl xs 0) (gl xs 0).length; omega
  refine ⟨e1, e2, e3, e5, ?_⟩
  have hall : ∀ g ∈ sigK (groupsN xs (gl xs 0)) (groupsN xs (gl xs 0)).length, (∃ u s, GrpIs xs (gl xs 0) u s g) ∧ 1 < g.src.length := fun g hg => by
    obtain ⟨h1, h2⟩ := mem_sigK (Nat.le_refl _) hg
    rw [e4] at h1
    exact ⟨mem_unK h1, h2⟩
  have hsl := sigK_len (groupsN xs (gl xs 0)) (groupsN xs (gl xs 0)).length
  generalize sigK (groupsN xs (gl xs 0)) (groupsN xs (gl xs 0)).length = l at hall hsl ⊢
  have hgg : ∀ k, k < l.length → (∃ u s, GrpIs xs (gl xs 0) u s (gg l k)) ∧ 1 < (gg l k).src.length := fun k hk => by
    refine hall _ ?_
    have : gg l k = l[k] := by simp [gg, hk]
    rw [this]; exact List.getElem_mem _
  have hbd : ∀ k, k < l.length → ∀ x ∈ (gg l k).src, 1 ≤ x ∧ x < (xs.length : Int) := fun k hk x hx => by
    obtain ⟨⟨u, s, hG⟩, _⟩ := hgg k hk
    rw [hG.src] at hx
    obtain ⟨i, rfl, hi, hs⟩ := mem_srcK.1 hx
    have : i ≠ 0 := fun e => by subst e; exact hG.ne hs.symm
    omega
  have hasc : ∀ k, k < l.length → (gg l k).src.Pairwise (· < ·) := fun k hk => by
    obtain ⟨⟨u, s, hG⟩, _⟩ := hgg k hk
    rw [hG.src]
    unfold srcK
    refine List.pairwise_map.2 ((List.Pairwise.filter _ List.pairwise_lt_range).imp fun h => Int.ofNat_lt.2 h)
  refine ⟨by omega, hnm, hnd, ?_, fun k hk => (hgg k hk).2, fun k hk x hx => by rw [hl]; exact hbd k hk x hx⟩
  unfold gcErr
  rw [if_neg (by omega), any_none, if_neg (by decide)]
  intro k hk
  obtain ⟨⟨u, s, hG⟩, h1⟩ := hgg k hk
  have hso : srcOk (gg l k).src = true := srcOk_of (hasc k hk) (fun x hx => by have := hbd k hk x hx; omega) hG.some
  have hs16 := hG.s_lt
  unfold gBad
  rw [hso, hG.un, hG.st, decide_eq_false (by omega), decide_eq_false (by omega), decide_eq_false (by omega)]
  rfl
end Go.Proofs.YtpjijbophjdgaaaGreat
