/- The tree of groups that are not in conflict: valid, its leaves are the names, no node has one child. Two rose trees without one-child nodes that have the same families of leaves are the same, sorted. Contracts: Support, Original, Significant of sharederror. Contracts of the references: Check of layer 30; right, check, Support, Original, Significant of layer 35. The contracts of layer 35's reference's has, common, conflict. -/
import Derived.Test.YtgjcfkadioblfaaGreatQ25
import Derived.Test.YtgjcfkadioblfaaGreatQ24
import Derived.Test.YtgjcfkadioblfaaGreatQ5
import Derived.Test.YtgjcfkadioblfaaGreatQ19
namespace Go.Proofs.YtgjcfkadioblfaaGreat
theorem mxK_ge (l : List Int) : ∀ {n k : Nat}, k < n → gi l k ≤ mxK l n
  | 0, k, h => by omega
  | n + 1, k, h => by
    rw [mxK]
    by_cases e : k = n
    · subst e; omega
    · have := mxK_ge l (n := n) (k := k) (by omega); omega
theorem mxL_ge {l : List Int} {x : Int} (h : x ∈ l) : x ≤ mxL l := by
  obtain ⟨k, hk, e⟩ := List.getElem_of_mem h
  have h1 := mxK_ge l hk
  have h2 : gi l k = x := by simp [gi, hk, e]
  rw [h2] at h1; exact h1
theorem innK_nodup (l : List Grp) (all : Nat) : ∀ k, (innK l all k).Nodup
  | 0 => List.nodup_nil
  | k + 1 => by
    have ih := innK_nodup l all k
    unfold innK
    split
    · rename_i hc
      rw [List.nodup_append]
      refine ⟨ih, by simp, fun a ha b hb e => ?_⟩
      obtain rfl : b = ofS (gg l k).src := by simpa using hb
      subst e; exact hc.2.2 ha
    · exact ih
/-- What groups have that Tree does not refuse. -/
structure ShOk (names : List ByteArray) (l : List Grp) : Prop where
  pos : 0 < names.length
  le : names.length ≤ 32
  nm : ∀ k, k < names.length → namedB (gs names k).data.toList = true
  nd : ∀ j k, j < k → k < names.length → gs names k ≠ gs names j
  gc : gcErr l = 0
  far : ∀ k, k < l.length → ∀ x ∈ (gg l k).src, x < names.length
  cf : ∀ i k, i < k → k < l.length → confB (ofS (gg l i).src) (ofS (gg l k).src) = false
theorem shErr_ok {names : List ByteArray} {l : List Grp} (h : shErr names l = 0) : ShOk names l := by
  unfold shErr at h
  split at h
  · cases h
  · rename_i h1
    split at h
    · cases h
    · rename_i h2
      split at h
      · rename_i h3; exact absurd h h3
      · rename_i h3
        have h3 : firstNZ (nmErr names) names.length = 0 := by
          by_cases e : firstNZ (nmErr names) names.length = 0
          · exact e
          · exact absurd e h3
        split at h
        · rename_i h4; exact absurd h h4
        · rename_i h4
          have h4 : gcErr l = 0 := by
            by_cases e : gcErr l = 0
            · exact e
            · exact absurd e h4
          split at h
          · cases h
          · rename_i h5
            split at h
            · cases h
            · rename_i h6
              have h6 : cfL l = [] := by
                by_cases e : cfL l = []
                · exact e
                · exact absurd e h6
              have hnm : ∀ k, k < names.length → namedB (gs names k).data.toList = true ∧ ((List.range k).any fun j => decide (gs names k = gs names j)) = false := fun k hk => by
                have := firstNZ_eq_zero h3 k hk
                unfold nmErr at this
                split at this
                · cases this
                · rename_i q1
                  split at this
                  · cases this
                  · rename_i q2
                    exact ⟨by simpa using q1, by simpa using q2⟩
              have h5 : farB l names.length = false := by simpa using h5
              unfold cfL at h6
              rw [if_pos h4] at h6
              refine ⟨by omega, by omega, fun k hk => (hnm k hk).1, fun j k hj hk => by
                have := any_false (hnm k hk).2 hj
                simpa using this, h4, fun k hk x hx => ?_, fun i k hik hk => ?_⟩
              · have h7 := any_false h5 hk
                have h8 := mxL_ge hx
                have h9 : ¬ ((names.length : Int) ≤ mxL (gg l k).src) := by simpa using h7
                omega
              · cases hc : confB (ofS (gg l i).src) (ofS (gg l k).src) with
                | false => rfl
                | true =>
                  exfalso
                  have hm : [(i : Int), (k : Int)] ∈ cfK l l.length := by
                    unfold cfK cfRow
                    refine List.mem_flatMap.2 ⟨i, List.mem_range.2 (by omega), List.mem_map.2 ⟨k, List.mem_filter.2 ⟨List.mem_range.2 hk, ?_⟩, rfl⟩⟩
                    unfold cfB
                    simp [hik, hc]
                  rw [h6] at hm; cases hm
section
variable {names : List ByteArray} {l : List Grp}
theorem ShOk.small (h : ShOk names l) {k : Nat} (hk : k < l.length) : Small (gg l k).src := (srcOk_small ((gcErr_zero h.gc).2 k hk).2.2.2).1
theorem ShOk.bits (h : ShOk names l) {k : Nat} (hk : k < l.length) {i : Nat} : (ofS (gg l k).src).testBit i = true ↔ (i : Int) ∈ (gg l k).src := testBit_ofS (h.small hk) i
theorem two_bits {n x a b : Nat} (hab : a ≠ b) (ha : a ∈ bitsN n x) (hb : b ∈ bitsN n x) : 2 ≤ (bitsN n x).length := by
  have h1 : [a, b].Nodup := by simp [hab]
  have h2 : [a, b] ⊆ bitsN n x := fun y hy => by
    rcases List.mem_cons.1 hy with e | hy
    · rw [e]; exact ha
    · have e : y = b := by simpa using hy
      rw [e]; exact hb
  have := h1.length_le_of_subset h2
  simpa using this
theorem conf_cases {a b : Nat} (h : confB a b = false) : withinB a b = true ∨ withinB b a = true ∨ a &&& b = 0 := by
  unfold confB at h
  by_cases e : a &&& b = 0
  · exact .inr (.inr e)
  · cases h1 : withinB a b
    · cases h2 : withinB b a
      · rw [h1, h2] at h; simp [e] at h
      · exact .inr (.inl rfl)
    · exact .inl rfl
theorem ShOk.lam (h : ShOk names l) : Lam (innL l (allN names.length)) names.length := by
  refine ⟨fun y hy => ?_, fun y hy i hi => ?_, fun y hy => ?_, fun y hy z hz => ?_, innK_nodup _ _ _⟩
  · obtain ⟨j, hj, rfl, _⟩ := innK_mem hy
    exact ofS_u64 (h.small hj)
  · obtain ⟨j, hj, rfl, _⟩ := innK_mem hy
    have := h.far j hj _ ((h.bits hj).1 hi); omega
  · obtain ⟨j, hj, rfl, h1, _⟩ := innK_mem hy
    obtain ⟨hs, _, hm⟩ := srcOk_small ((gcErr_zero h.gc).2 j hj).2.2.2
    obtain ⟨a, ha, _⟩ := small_mem hs (gi_mem (l := (gg l j).src) (k := 0) (by omega))
    obtain ⟨b, hb, _⟩ := small_mem hs (gi_mem (l := (gg l j).src) (k := 1) h1)
    have h2 := hm 1 (by omega) h1
    have hma : (a : Int) ∈ (gg l j).src := by rw [← ha]; exact gi_mem (by omega)
    have hmb : (b : Int) ∈ (gg l j).src := by rw [← hb]; exact gi_mem h1
    refine two_bits (a := a) (b := b) (by
      have e : (1 : Nat) - 1 = 0 := rfl
      rw [e, ha, hb] at h2; omega) (mem_bitsN.2 ⟨?_, (h.bits hj).2 hma⟩) (mem_bitsN.2 ⟨?_, (h.bits hj).2 hmb⟩)
    · have := h.far j hj _ hma; omega
    · have := h.far j hj _ hmb; omega
  · obtain ⟨j, hj, rfl, _⟩ := innK_mem hy
    obtain ⟨k, hk, rfl, _⟩ := innK_mem hz
    rcases Nat.lt_trichotomy j k with e | e | e
    · exact conf_cases (h.cf j k e hk)
    · subst e
      exact .inl ((withinB_iff (ofS_u64 (h.small hj)) (ofS_u64 (h.small hj))).2 fun i hi => hi)
    · rcases conf_cases (h.cf k j e hj) with q | q | q
      · exact .inr (.inl q)
      · exact .inl q
      · exact .inr (.inr (by rw [Nat.and_comm]; exact q))
theorem all_bits (n : Nat) : bitsN n (allN n) = List.range n := by
  unfold bitsN allN
  rw [List.filter_eq_self]
  intro i hi
  have : i < n := List.mem_range.1 hi
  rw [Nat.testBit_two_pow_sub_one]; simpa using this
/-- The rose tree of the groups. -/
def shR (names : List ByteArray) (l : List Grp) : RT := growR names (innL l (allN names.length)) (allN names.length + 1) (allN names.length)
theorem range_gs (names : List ByteArray) : (List.range names.length).map (gs names) = names := by
  refine List.ext_getElem (by simp) fun i h1 h2 => ?_
  simp [gs, h2]
theorem shR_ok (h : ShOk names l) (h2 : 2 ≤ names.length) : (leafR (shR names l)).Perm names ∧ ∀ s ∈ subR (shR names l), PartOk s := by
  have hall : U64 (allN names.length) := by have := all_lt h.le; unfold U64; omega
  have := growR_ok (inner := innL l (allN names.length)) h.le h.nm h.lam (allN names.length + 1) (allN names.length) (by omega) hall (fun i hi => by
    unfold allN at hi
    rw [Nat.testBit_two_pow_sub_one] at hi; simpa using hi) (by rw [all_bits]; simpa using h2)
  rw [all_bits, range_gs] at this
  exact this
theorem names_nodup (h : ShOk names l) : names.Nodup := by
  unfold List.Nodup
  rw [List.pairwise_iff_getElem]
  intro i j hi hj hij e
  have := h.nd i j hij hj
  simp [gs, hi, hj] at this
  exact this e.symm
theorem shR_good (h : ShOk names l) (h2 : 2 ≤ names.length) : GoodR (shR names l) := by
  obtain ⟨h3, h4⟩ := shR_ok h h2
  exact ⟨fun s hs hk => (h4 s hs).1 hk, fun s hs hk => (h4 s hs).2.1 hk, h3.nodup_iff.2 (names_nodup h)⟩
theorem shR_size (h : ShOk names l) (h2 : 2 ≤ names.length) : sizeR (shR names l) + 1 ≤ 2 * names.length := by
  obtain ⟨h3, h4⟩ := shR_ok h h2
  have := size_le _ h4
  rw [h3.length_eq] at this; exact this
theorem rawT_R (h : ShOk names l) : rawT names l = flat (shR names l) := rawT_flat names l h.le h.gc
theorem rawT_valid (h : ShOk names l) (h2 : 2 ≤ names.length) : treeErr (rawT names l) = 0 := by
  rw [rawT_R h]
  have := shR_size h h2
  have := h.le
  exact treeErr_flat (shR_good h h2) (by omega)
/-- The bound that shTree_t asks. -/
theorem rawT_small (h : ShOk names l) (h2 : 2 ≤ names.length) : (rawT names l).ps.length ≤ 63 := by
  rw [rawT_R h, flat_ps]
  have := shR_size h h2
  have := h.le
  omega
/-- The tree of Tree: the sorted rose tree, numbered. -/
theorem shTree_two (h : shErr names l = 0) (h2 : 2 ≤ names.length) : shTree names l = flat (sortR (shR names l)) ∧ shRes names l = 0 := by
  have hk := shErr_ok h
  have hv := rawT_valid hk h2
  unfold shTree shRes
  rw [if_neg (by simp [h]), if_neg (by omega), if_pos hv, if_neg (by simp [h]), if_neg (by omega), if_pos hv, canT_flat hv, rawT_R hk, toR_flat]
  exact ⟨rfl, rfl⟩
end
end Go.Proofs.YtgjcfkadioblfaaGreat
namespace Go.Proofs.YtgjcfkadioblfaaGreat
structure OkU (r : RT) : Prop where
  nd : (leafR r).Nodup
  pt : ∀ s ∈ subR r, PartOk s
theorem OkU.good {r : RT} (h : OkU r) : GoodR r := ⟨fun s hs hk => (h.pt s hs).1 hk, fun s hs hk => (h.pt s hs).2.1 hk, h.nd⟩
theorem OkU.sub {r s : RT} (h : OkU r) (hs : s ∈ subR r) : OkU s := ⟨(leafR_sub hs).nodup h.nd, fun q hq => h.pt q (subR_trans r hs hq)⟩
theorem OkU.first {r : RT} (h : OkU r) : firstR r ∈ leafR r := first_leaf r h.good.lf
theorem mem_kid {nm : ByteArray} {ks : List RT} {k : RT} (hk : k ∈ ks) : k ∈ subR (.node nm ks) := by
  rw [subR]; exact List.mem_cons_of_mem _ (mem_subRs hk k (subR_self k))
theorem OkU.leafs {nm : ByteArray} {ks : List RT} (h : OkU (.node nm ks)) (h0 : ks ≠ []) : leafR (.node nm ks) = ks.flatMap leafR :=
  leafR_node ((h.pt _ (subR_self _)).1 h0)
theorem OkU.apart {nm : ByteArray} {ks : List RT} (h : OkU (.node nm ks)) {i j : Nat} (hi : i < ks.length) (hj : j < ks.length) {x : ByteArray} (h1 : x ∈ leafR ks[i]) (h2 : x ∈ leafR ks[j]) : i = j := by
  have h0 : ks ≠ [] := fun e => by subst e; simp at hi
  have hn := h.nd
  rw [h.leafs h0, List.nodup_iff_pairwise_ne, List.pairwise_flatMap] at hn
  have hp := List.pairwise_iff_getElem.1 hn.2
  rcases Nat.lt_trichotomy i j with c | c | c
  · exact absurd rfl (hp i j hi hj c x h1 x h2)
  · exact c
  · exact absurd rfl (hp j i hj hi c x h2 x h1)
theorem OkU.same_kid {nm : ByteArray} {ks : List RT} (h : OkU (.node nm ks)) {k k' : RT} (hk : k ∈ ks) (hk' : k' ∈ ks) {x : ByteArray} (h1 : x ∈ leafR k) (h2 : x ∈ leafR k') : k = k' := by
  obtain ⟨i, hi, rfl⟩ := List.getElem_of_mem hk
  obtain ⟨j, hj, rfl⟩ := List.getElem_of_mem hk'
  have := h.apart hi hj h1 h2
  subst this; rfl
/-- A child lacks some leaf. -/
theorem OkU.lacks {nm : ByteArray} {ks : List RT} (h : OkU (.node nm ks)) {k : RT} (hk : k ∈ ks) : ∃ x ∈ leafR (.node nm ks), x ∉ leafR k := by
  have h0 : ks ≠ [] := fun e => by subst e; simp at hk
  have h1 : ks.length ≠ 1 := (h.pt _ (subR_self _)).2.2
  have h2 : 2 ≤ ks.length := by
    have := List.length_pos_of_mem hk
    omega
  obtain ⟨i, hi, rfl⟩ := List.getElem_of_mem hk
  obtain ⟨j, hj, hij⟩ : ∃ j, j < ks.length ∧ i ≠ j := by
    by_cases c : i = 0
    · exact ⟨1, by omega, by omega⟩
    · exact ⟨0, by omega, c⟩
  have hf := (h.sub (mem_kid (List.getElem_mem hj))).first
  refine ⟨firstR ks[j], ?_, fun q => hij (h.apart hi hj q hf)⟩
  rw [h.leafs h0]
  exact List.mem_flatMap.2 ⟨_, List.getElem_mem hj, hf⟩
theorem OkU.two {nm : ByteArray} {ks : List RT} (h : OkU (.node nm ks)) (h0 : ks ≠ []) (y : ByteArray) : ∃ x ∈ leafR (.node nm ks), x ≠ y := by
  obtain ⟨k, hk⟩ := List.exists_mem_of_ne_nil _ h0
  obtain ⟨x, hx, hn⟩ := h.lacks hk
  have hf := (h.sub (mem_kid hk)).first
  by_cases c : x = y
  · subst c
    refine ⟨firstR k, (leafR_sub (mem_kid hk)).subset hf, fun e => hn ?_⟩
    rw [← e]; exact hf
  · exact ⟨x, hx, c⟩
def SameL (r s : RT) : Prop := ∀ x, x ∈ leafR r ↔ x ∈ leafR s
def FamIn (r1 r2 : RT) : Prop := ∀ s ∈ subR r1, ∃ u ∈ subR r2, SameL s u
theorem fam_root {r1 r2 : RT} (h1 : FamIn r1 r2) (h2 : FamIn r2 r1) : SameL r1 r2 := by
  obtain ⟨u, hu, e⟩ := h1 r1 (subR_self _)
  obtain ⟨v, hv, f⟩ := h2 r2 (subR_self _)
  exact fun x => ⟨fun hx => (leafR_sub hu).subset ((e x).1 hx), fun hx => (leafR_sub hv).subset ((f x).1 hx)⟩
theorem mem_subRs_ex {u : RT} {ks : List RT} (h : u ∈ subRs ks) : ∃ k ∈ ks, u ∈ subR k := by
  rw [subRs_flat] at h
  obtain ⟨k, hk, hu⟩ := List.mem_flatMap.1 h
  exact ⟨k, hk, hu⟩
/-- A part below a child of the one lies below a child of the other. -/
theorem fam_kid {n1 n2 : ByteArray} {k1 k2 : List RT} (o1 : OkU (.node n1 k1)) (h1 : FamIn (.node n1 k1) (.node n2 k2)) (hs : SameL (.node n1 k1) (.node n2 k2)) {k : RT} (hk : k ∈ k1) {s : RT} (hsk : s ∈ subR k) :
    ∃ q ∈ k2, ∃ u ∈ subR q, SameL s u := by
  obtain ⟨u, hu, e⟩ := h1 s (subR_trans _ (mem_kid hk) hsk)
  rw [subR, List.mem_cons] at hu
  rcases hu with rfl | hu
  · obtain ⟨x, hx, hn⟩ := o1.lacks hk
    exact absurd ((leafR_sub hsk).subset ((e x).2 ((hs x).1 hx))) hn
  · obtain ⟨q, hq, hu⟩ := mem_subRs_ex hu
    exact ⟨q, hq, u, hu, e⟩
theorem ins_perm {a b : List RT} (h : a.Perm b) : (a.map firstR).Nodup → a.foldr insR [] = b.foldr insR [] := by
  induction h with
  | nil => intro _; rfl
  | cons x _ ih => intro hn; rw [List.foldr_cons, List.foldr_cons, ih (by rw [List.map_cons, List.nodup_cons] at hn; exact hn.2)]
  | swap x y l =>
    intro hn
    simp only [List.foldr_cons]
    rw [List.map_cons, List.nodup_cons, List.map_cons] at hn
    exact insR_comm (fun e => hn.1 (by rw [e]; simp)) _
  | trans p _ ih1 ih2 => intro hn; rw [ih1 hn, ih2 ((p.map _).nodup_iff.1 hn)]
theorem sortRs_fold : ∀ l : List RT, sortRs l = (l.map sortR).foldr insR []
  | [] => by rw [sortRs]; rfl
  | r :: l => by rw [sortRs, sortRs_fold l]; rfl
theorem size0_eq {a b : ByteArray} (ha : a.size = 0) (hb : b.size = 0) : a = b := by
  apply ByteArray.ext
  apply Array.ext
  · show a.size = b.size; omega
  · intro i hi _; have : i < a.size := hi; omega
theorem uniq_sort : ∀ (d : Nat) (r1 r2 : RT), sizeR r1 ≤ d → OkU r1 → OkU r2 → FamIn r1 r2 → FamIn r2 r1 → sortR r1 = sortR r2
  | 0, r1, _, hd, _, _, _, _ => by have := sizeR_pos r1; omega
  | d + 1, .node n1 k1, .node n2 k2, hd, o1, o2, h1, h2 => by
    have hs := fam_root h1 h2
    have hs' : SameL (.node n2 k2) (.node n1 k1) := fun x => (hs x).symm
    by_cases e1 : k1 = []
    · subst e1
      have hz1 := named_size ((o1.pt _ (subR_self _)).2.1 rfl)
      have l1 : leafR (.node n1 []) = [n1] := leafR_leaf hz1
      by_cases e2 : k2 = []
      · subst e2
        have hz2 := named_size ((o2.pt _ (subR_self _)).2.1 rfl)
        have l2 : leafR (.node n2 []) = [n2] := leafR_leaf hz2
        have := (hs n1).1 (by rw [l1]; simp)
        rw [l2, List.mem_singleton] at this
        rw [this]
      · obtain ⟨x, hx, hn⟩ := o2.two e2 n1
        have := (hs x).2 hx
        rw [l1, List.mem_singleton] at this
        exact absurd this hn
    · by_cases e2 : k2 = []
      · subst e2
        have hz2 := named_size ((o2.pt _ (subR_self _)).2.1 rfl)
        have l2 : leafR (.node n2 []) = [n2] := leafR_leaf hz2
        obtain ⟨x, hx, hn⟩ := o1.two e1 n2
        have := (hs x).1 hx
        rw [l2, List.mem_singleton] at this
        exact absurd this hn
      · have hz1 := (o1.pt _ (subR_self _)).1 e1
        have hz2 : n2.size = 0 := (o2.pt _ (subR_self _)).1 e2
        have sub1 : ∀ k ∈ k1, OkU k := fun k hk => o1.sub (mem_kid hk)
        have sub2 : ∀ k ∈ k2, OkU k := fun k hk => o2.sub (mem_kid hk)
        -- children match
        have key : ∀ {n1 n2 : ByteArray} {k1 k2 : List RT}, OkU (.node n1 k1) → OkU (.node n2 k2) → FamIn (.node n1 k1) (.node n2 k2) → FamIn (.node n2 k2) (.node n1 k1) → SameL (.node n1 k1) (.node n2 k2) → SameL (.node n2 k2) (.node n1 k1) →
            ∀ k ∈ k1, ∃ q ∈ k2, SameL k q ∧ FamIn k q ∧ FamIn q k := by
          intro n1 n2 k1 k2 o1 o2 h1 h2 hs hs' k hk
          obtain ⟨q, hq, u, hu, e⟩ := fam_kid o1 h1 hs hk (subR_self k)
          obtain ⟨k', hk', u', hu', e'⟩ := fam_kid o2 h2 hs' hq (subR_self q)
          have hf := (o1.sub (mem_kid hk)).first
          have hfq : firstR k ∈ leafR q := (leafR_sub hu).subset ((e _).1 hf)
          have hkk : k = k' := o1.same_kid hk hk' hf ((leafR_sub hu').subset ((e' _).1 hfq))
          subst hkk
          have hsame : SameL k q := fun x => ⟨fun hx => (leafR_sub hu).subset ((e x).1 hx), fun hx => (leafR_sub hu').subset ((e' x).1 hx)⟩
          refine ⟨q, hq, hsame, fun s hsk => ?_, fun s hsq => ?_⟩
          · obtain ⟨q2, hq2, v, hv, ev⟩ := fam_kid o1 h1 hs hk hsk
            have hfs := ((o1.sub (mem_kid hk)).sub hsk).first
            have := o2.same_kid hq hq2 ((hsame _).1 ((leafR_sub hsk).subset hfs)) ((leafR_sub hv).subset ((ev _).1 hfs))
            subst this
            exact ⟨v, hv, ev⟩
          · obtain ⟨q2, hq2, v, hv, ev⟩ := fam_kid o2 h2 hs' hq hsq
            have hfs := ((o2.sub (mem_kid hq)).sub hsq).first
            have := o1.same_kid hk hq2 ((hsame _).2 ((leafR_sub hsq).subset hfs)) ((leafR_sub hv).subset ((ev _).1 hfs))
            subst this
            exact ⟨v, hv, ev⟩
        have hsz : ∀ k ∈ k1, sizeR k ≤ d := fun k hk => by
          rw [sizeR] at hd
          have : ∀ l : List RT, k ∈ l → sizeR k ≤ sizeRs l := fun l => by
            induction l with
            | nil => intro h; cases h
            | cons a l ih =>
              intro h
              rw [sizeRs]
              rcases List.mem_cons.1 h with rfl | h
              · omega
              · have := ih h; omega
          have := this k1 hk
          omega
        have m1 : ∀ k ∈ k1, ∃ q ∈ k2, sortR k = sortR q := fun k hk => by
          obtain ⟨q, hq, _, f1, f2⟩ := key o1 o2 h1 h2 hs hs' k hk
          exact ⟨q, hq, uniq_sort d k q (hsz k hk) (sub1 k hk) (sub2 q hq) f1 f2⟩
        have m2 : ∀ q ∈ k2, ∃ k ∈ k1, sortR q = sortR k := fun q hq => by
          obtain ⟨k, hk, _, f1, f2⟩ := key o2 o1 h2 h1 hs' hs q hq
          exact ⟨k, hk, (uniq_sort d k q (hsz k hk) (sub1 k hk) (sub2 q hq) f2 f1).symm⟩
        have d1 : ((k1.map sortR).map firstR).Nodup := by rw [List.map_map]; exact good_dst o1.good _ (subR_self _)
        have d2 : ((k2.map sortR).map firstR).Nodup := by rw [List.map_map]; exact good_dst o2.good _ (subR_self _)
        have nd : ∀ {l : List RT}, (l.map firstR).Nodup → l.Nodup := fun {l} h => by
          unfold List.Nodup at h ⊢
          rw [List.pairwise_map] at h
          exact h.imp fun h e => h (by rw [e])
        have hp : (k1.map sortR).Perm (k2.map sortR) := (List.perm_ext_iff_of_nodup (nd d1) (nd d2)).2 fun x => by
          constructor
          · intro hx
            obtain ⟨k, hk, rfl⟩ := List.mem_map.1 hx
            obtain ⟨q, hq, e⟩ := m1 k hk
            exact List.mem_map.2 ⟨q, hq, e.symm⟩
          · intro hx
            obtain ⟨q, hq, rfl⟩ := List.mem_map.1 hx
            obtain ⟨k, hk, e⟩ := m2 q hq
            exact List.mem_map.2 ⟨k, hk, e.symm⟩
        rw [sortR, sortR, sortRs_fold, sortRs_fold, ins_perm hp d1, size0_eq (a := n1) (b := n2) hz1 hz2]
end Go.Proofs.YtgjcfkadioblfaaGreat
namespace Go.Proofs.YtgjcfkadioblfaaGreat
open Go.RowKit Go.Deep
/-- How many of the first k groups have just these sources. -/
def supK (l : List Grp) (own : List Int) : Nat → Nat
  | 0 => 0
  | k + 1 => supK l own k + if (gg l k).src = own then 1 else 0
theorem supK_le (l : List Grp) (own : List Int) : ∀ k, supK l own k ≤ k
  | 0 => Nat.le_refl _
  | k + 1 => by have := supK_le l own k; unfold supK; split <;> omega
def supErr (l : List Grp) (own : List Int) : Int := if gcErr l ≠ 0 then gcErr l else if srcOk own = false then 1 else 0
def supN (l : List Grp) (own : List Int) : Int := if supErr l own = 0 then (supK l own l.length : Int) else 0
def orErr (xs : List (List Int)) (s : Int) : Int := if agErr xs ≠ 0 then agErr xs else if s < 0 ∨ (xs.length : Int) ≤ s then 2 else 0
def orN (xs : List (List Int)) (s : Int) : List Int := if orErr xs s = 0 then gl xs s.toNat else []
def OrPost (w : World) (xs : List (List Int)) (s : Int) (e : Ending) (w' : World) : Prop :=
  Up w w' ∧ ∃ v, e = .returned (.tuple #[v, .int .i64 (orErr xs s)]) ∧ IntsAt Any w' v (orN xs s)
theorem nil_ints_at (S : Nat → Prop) (W : World) : IntsAt S W (.slice none 0 0) [] := ⟨none, 0, rfl, Nat.le_refl _, .inl rfl⟩
section
variable {P : Program} {ops : Array Oper} {rest : List Oper} {o : Oper} {a : Act} {Q : Exit → Act → World → Prop}
/-- 'out = append(out, g)', g a group. -/
theorem wpList_appGrpM (W : World) (hgd : o.guard = none) (s x : Operand) (t : TypeId) (ho : o.op = .call { callee := .builtin .append, args := #[s, x], argTypes := #[t, t] })
    (base : Nat) (e : TypeId) (z : Value) (bytes : Nat) (ht : P.underlying t = some (.slice e)) (hinfo : (P.info? e).map (fun i => (i.zero, i.size, i.bytes)) = some (some z, 3, bytes))
    (hz1 : z.cells.size = 3) (hb8 : bytes ≤ 64) {v : Value} {gs : List Grp} (hown : GrpsOwn base e W v gs) (hs : a.eval s = v) (G : Grp) (u : Value) (m : Nat) (hm : W.heap.size = m)
    (hx : a.eval x = .slice (some ⟨m, 0, none⟩) 1 1) (hu : IntsAt (fun b => some b ≠ v.ownBlock) W u G.src) (h1 : u.oneCell' = true) (n : Nat) (hxn : gs.length = n) (hn : n ≤ 1000000) (hbase : base ≤ W.heap.size)
    (h : ∀ g cap w', GrpsOwn base e w' (.slice (some ⟨g, 0, none⟩) (n + 1) cap) (gs ++ [G]) → W.grownBy w' v.ownBlock → Below base W w' → wpList P ops Q rest (a.put o.dst (.slice (some ⟨g, 0, none⟩) (n + 1) cap)) w') :
    wpList P ops Q (o :: rest) a (W.alloc (.cells #[.int .i64 G.un, .int .i64 G.st, u] e)) := by
  subst hm
  exact wpList_appGrp W hgd s x t ho base e z bytes ht hinfo hz1 hb8 hown hs G u hx hu h1 n hxn hn hbase h
end
/-- The groups of several sources, of the first k. -/
def sigK (l : List Grp) : Nat → List Grp
  | 0 => []
  | k + 1 => if 1 < (gg l k).src.length then sigK l k ++ [gg l k] else sigK l k
theorem sigK_len (l : List Grp) : ∀ k, (sigK l k).length ≤ k
  | 0 => Nat.le_refl _
  | k + 1 => by
    have := sigK_len l k
    unfold sigK
    split
    · rw [List.length_append]; simp; omega
    · omega
def SgPost (w : World) (l : List Grp) (e : Ending) (w' : World) : Prop := Up w w' ∧ ∃ v, e = .returned v ∧ GrpsAt Any w' v l
end Go.Proofs.YtgjcfkadioblfaaGreat
namespace Go.Proofs.YtgjcfkadioblfaaGreat
open Go.RowKit Go.Deep
set_option maxRecDepth 100000 in
set_option maxHeartbeats 2000000 in
theorem rightR_t (S : Nat → Prop) (w : World) (v : Value) (l : List Int) (h : IntsAt S w v l) (hn : l.length ≤ 1000000) :
    Calls Tryz.prog 106 #[v] w fun e w' => e = .returned (.bool (srcOk l)) ∧ QD w w' := by
  have HI0 := h
  obtain ⟨p, cap, rfl, hcap, H⟩ := SlAt.open h
  have HI := Lib.hid HI0
  clear h HI0 H
  have HS : Hid (srcOk l = (!((List.range l.length).any (srcBad l)) && decide (0 < l.length))) := rfl
  have HB : Hid (∀ k, srcBad l k = (decide (gi l k < 0) || decide (32 ≤ gi l k) || (decide (0 < k) && decide (gi l k ≤ gi l (k - 1))))) := fun _ => rfl
  go_enter Tryz.func106, Tryz.ntmps106
  go_wp2_with fail
  go_loopw [3] (fun i wr => ∃ k : Nat, k ≤ l.length ∧ i = .int .i64 k ∧ Hid (QD w wr) ∧ Hid (∀ j, j < k → srcBad l j = false)) (fun i _ => l.length - (intOf i).toNat)
  case atStart => exact ⟨0, Nat.zero_le _, rfl, QD.refl _, fun j hj => absurd hj (Nat.not_lt_zero _)⟩
  case round =>
    obtain ⟨k, hk, rfl, hQ, hd⟩ := hrel
    obtain ⟨wo, rfl⟩ : ∃ wo : World, wo = wr := ⟨_, rfl⟩
    by_cases hlt : k < l.length
    · obtain ⟨b, off, rfl, hc⟩ := ints_get (IntsAt.keep HI.out (hQ.out.kept S)) hlt
      have HBK := Lib.hid (HB.out k)
      have i1 : (0 : Int) ≤ (k : Int) := by omega
      have i2 : (k : Int) < (l.length : Int) := by omega
      have HXK : Hid (srcBad l k = true → srcOk l = false) := fun hx => by
        rw [HS.out, any_at hlt hx]; rfl
      generalize hy : gi l k = y at *
      clear hy
      by_cases h0 : y < 0
      · have HR : Hid (srcOk l = false) := HXK.out (by rw [HBK.out]; simp [h0])
        have e0 : decide (y < 0) = true := by simpa using h0
        clear h0
        go_wp2_with fail
        go_big_quiet (fail)
        go_wp2_with fail
        go_ret
        exact ⟨ret_bool HR.out.symm, hQ.out.drewN nq⟩
      · have e0 : decide (y < 0) = false := by simpa using h0
        by_cases h1 : 32 ≤ y
        · have HR : Hid (srcOk l = false) := HXK.out (by rw [HBK.out]; simp [h1])
          have e1 : decide (32 ≤ y) = true := by simpa using h1
          clear h0 h1
          go_wp2_with fail
          go_big_quiet (fail)
          go_wp2_with fail
          go_ret
          exact ⟨ret_bool HR.out.symm, hQ.out.drewN nq⟩
        · have e1 : decide (32 ≤ y) = false := by simpa using h1
          clear h0 h1
          cases k with
          | zero =>
            have HR : Hid (srcBad l 0 = false) := by unfold Hid; rw [HBK.out]; simp [e0, e1]
            rw [Nat.add_zero] at hc
            go_wp2_with fail
            go_big_quiet (fail)
            go_wp2_with fail
            go_roundw
            case rel => exact ⟨1, by omega, by go_num, hQ.out.drewN nq, fun j hj => (by rw [show j = 0 from by omega]; exact HR.out)⟩
            case measure => simp [intOf]; omega
          | succ j =>
            have hcj := ints_get' (IntsAt.keep HI.out (hQ.out.kept S)) (k := j) (by omega)
            have HR : Hid (srcBad l (j + 1) = decide (y ≤ gi l j)) := by unfold Hid; rw [HBK.out, e0, e1]; simp
            have k2 : decide ((0 : Int) < ((j + 1 : Nat) : Int)) = true := by simp
            have k2n : decide (0 < j + 1) = true := by simp
            have k3 : ((j + 1 : Nat) : Int) - 1 = (j : Int) := by omega
            have k4 : (0 : Int) ≤ (j : Int) := by omega
            have k5 : (j : Int) < (l.length : Int) := by omega
            generalize gi l j = z at *
            by_cases h2 : y ≤ z
            · have e2 : decide (y ≤ z) = true := by simpa using h2
              have HR2 : Hid (srcOk l = false) := HXK.out (by rw [HR.out, e2])
              clear h2
              go_wp2_with fail
              go_big_quiet (fail)
              go_wp2_with fail
              go_ret
              exact ⟨ret_bool HR2.out.symm, hQ.out.drewN nq⟩
            · have e2 : decide (y ≤ z) = false := by simpa using h2
              have HR2 : Hid (srcBad l (j + 1) = false) := by unfold Hid; rw [HR.out, e2]
              clear h2
              go_wp2_with fail
              go_big_quiet (fail)
              go_wp2_with fail
              go_roundw
              case rel => exact ⟨j + 2, by omega, by go_num, hQ.out.drewN nq, fun i hi => if e : i = j + 1 then by subst e; exact HR2.out else hd.out i (by omega)⟩
              case measure => simp [intOf]; omega
    · obtain rfl : k = l.length := by omega
      have HR : Hid (srcOk l = decide (0 < l.length)) := by unfold Hid; rw [HS.out, any_none hd.out]; rfl
      go_wp2_with fail
      go_ret
      exact ⟨ret_bool (by rw [HR.out]), hQ.out⟩
set_option maxRecDepth 100000 in
set_option maxHeartbeats 2000000 in
theorem gcheckR_t (S : Nat → Prop) (w : World) (v : Value) (l : List Grp) (h : GrpsAt S w v l) (hn : l.length ≤ 1000000) (hr : ∀ k, (gg l k).src.length ≤ 1000000) :
    Calls Tryz.prog 54 #[v] w fun e w' => e = .returned (.int .i64 (gcErr l)) ∧ QD w w' := by
  obtain ⟨p, cap, rfl, hcap⟩ := grps_open h
  have HX := Lib.hid h
  have HR := Lib.hid hr
  have HG : Hid (gcErr l = if 256 < l.length then 4 else if (List.range l.length).any fun k => gBad (gg l k) then 1 else 0) := rfl
  clear h hr
  by_cases h1 : 256 < l.length
  · have HQ : Hid (gcErr l = 4) := by unfold Hid; rw [HG.out, if_pos h1]
    have d1 : decide ((256 : Int) < (l.length : Int)) = true := by simp; omega
    clear h1
    go_enter Tryz.func54, Tryz.ntmps54
    go_wp2_with fail
    go_ret
    exact ⟨ret_int HQ.out.symm, QD.refl _⟩
  have d1 : decide ((256 : Int) < (l.length : Int)) = false := by simp; omega
  have HQ1 : Hid (∀ k, k < l.length → gBad (gg l k) = true → gcErr l = 1) := fun k hk hb => by rw [HG.out, if_neg h1, if_pos (any_at (p := fun k => gBad (gg l k)) hk hb)]
  have HQ0 : Hid ((∀ k, k < l.length → gBad (gg l k) = false) → gcErr l = 0) := fun hb => by rw [HG.out, if_neg h1, if_neg (by rw [any_none hb]; decide)]
  clear h1 HG
  go_enter Tryz.func54, Tryz.ntmps54
  go_wp2_with fail
  go_loopw [3] (fun i wr => ∃ k : Nat, k ≤ l.length ∧ i = .int .i64 k ∧ Hid (QD w wr) ∧ Hid (∀ j, j < k → gBad (gg l j) = false)) (fun i _ => l.length - (intOf i).toNat)
  case atStart => exact ⟨0, Nat.zero_le _, rfl, QD.refl _, fun j hj => absurd hj (Nat.not_lt_zero _)⟩
  case round =>
    obtain ⟨k, hk, rfl, hU, hd⟩ := hrel
    obtain ⟨wo, rfl⟩ : ∃ wo : World, wo = wr := ⟨_, rfl⟩
    by_cases hlt : k < l.length
    · obtain ⟨b, off, rq, rc, rfl, hc0, hc1, hc2, hri⟩ := grps_get (HX.out.keep (hU.out.kept S)) hlt
      have i1 : (0 : Int) ≤ (k : Int) := by omega
      have i2 : (k : Int) < (l.length : Int) := by omega
      have HK1 := Lib.hid (HQ1.out k hlt)
      have HGB : Hid (gBad (gg l k) = (decide ((gg l k).un < 0) || decide ((gg l k).st < 0) || decide (16 ≤ (gg l k).st) || !srcOk (gg l k).src)) := rfl
      have HSC := Lib.hid (rightR_t S _ _ _ hri (HR.out k))
      clear hri
      generalize (gg l k).un = un at *
      generalize (gg l k).st = sx at *
      generalize (gg l k).src = src at *
      by_cases c0 : un < 0
      · have e0 : decide (un < 0) = true := by simpa using c0
        have HQ : Hid (gcErr l = 1) := HK1.out (by rw [HGB.out, e0]; rfl)
        go_wp2_with fail
        go_ret
        exact ⟨ret_int HQ.out.symm, hU.out⟩
      · have e0 : decide (un < 0) = false := by simpa using c0
        by_cases c1 : sx < 0
        · have e1 : decide (sx < 0) = true := by simpa using c1
          have HQ : Hid (gcErr l = 1) := HK1.out (by rw [HGB.out, e0, e1]; rfl)
          go_wp2_with fail
          go_ret
          exact ⟨ret_int HQ.out.symm, hU.out⟩
        · have e1 : decide (sx < 0) = false := by simpa using c1
          by_cases c2 : 16 ≤ sx
          · have e2 : decide (16 ≤ sx) = true := by simpa using c2
            have HQ : Hid (gcErr l = 1) := HK1.out (by rw [HGB.out, e0, e1, e2]; rfl)
            go_wp2_with fail
            go_ret
            exact ⟨ret_int HQ.out.symm, hU.out⟩
          · have e2 : decide (16 ≤ sx) = false := by simpa using c2
            rw [e0, e1, e2] at HGB
            generalize srcOk src = so at *
            cases so
            · have HQ : Hid (gcErr l = 1) := HK1.out (by rw [HGB.out]; rfl)
              go_wp2_with (refine HSC.out.mono ?_; rintro e w' ⟨rfl, n, rfl⟩)
              go_ret
              exact ⟨ret_int HQ.out.symm, hU.out.drewN n⟩
            · have HQ : Hid (gBad (gg l k) = false) := by unfold Hid; rw [HGB.out]; rfl
              go_wp2_with (refine HSC.out.mono ?_; rintro e w' ⟨rfl, n, rfl⟩)
              go_roundw
              case rel => exact ⟨k + 1, by omega, by go_num, hU.out.drewN n, fun j hj => if e : j = k then by subst e; exact HQ.out else hd.out j (by omega)⟩
              case measure => simp [intOf]; omega
    · obtain rfl : k = l.length := by omega
      have HQ : Hid (gcErr l = 0) := HQ0.out hd.out
      clear hlt hk
      go_wp2_with fail
      go_ret
      exact ⟨ret_int HQ.out.symm, hU.out⟩
end Go.Proofs.YtgjcfkadioblfaaGreat
namespace Go.Proofs.YtgjcfkadioblfaaGreat
open Go.RowKit Go.Deep
set_option maxRecDepth 100000 in
set_option maxHeartbeats 2000000 in
theorem rhas_t (S : Nat → Prop) (w : World) (v : Value) (l : List Int) (x : Int) (h : IntsAt S w v l) (hn : l.length ≤ 1000000) :
    Calls Tryz.prog 114 #[v, .int .i64 x] w fun e w' => e = .returned (.bool (decide (x ∈ l))) ∧ QD w w' := by
  rw [← any_memI]
  have HI0 := h
  obtain ⟨p, cap, rfl, hcap, H⟩ := SlAt.open h
  have HI := Lib.hid HI0
  clear h HI0 H
  go_enter Tryz.func114, Tryz.ntmps114
  go_wp2_with fail
  go_loopw [5] (fun i wr => ∃ k : Nat, k ≤ l.length ∧ i = .int .i64 k ∧ Hid (QD w wr) ∧ Hid (∀ j, j < k → decide (x = gi l j) = false)) (fun i _ => l.length - (intOf i).toNat)
  case atStart => exact ⟨0, Nat.zero_le _, rfl, QD.refl _, fun j hj => absurd hj (Nat.not_lt_zero _)⟩
  case round =>
    obtain ⟨k, hk, rfl, hQ, hd⟩ := hrel
    obtain ⟨wo, rfl⟩ : ∃ wo : World, wo = wr := ⟨_, rfl⟩
    by_cases hlt : k < l.length
    · obtain ⟨b, off, rfl, hc⟩ := ints_get (IntsAt.keep HI.out (hQ.out.kept S)) hlt
      have i1 : (0 : Int) ≤ (k : Int) := by omega
      have i2 : (k : Int) < (l.length : Int) := by omega
      have HXK : Hid (decide (x = gi l k) = true → ((List.range l.length).any fun j => decide (x = gi l j)) = true) := fun hx => any_at hlt hx
      have HXN : Hid (decide (x = gi l k) = false → ∀ j, j < k + 1 → decide (x = gi l j) = false) := fun hx j hj => if e : j = k then by subst e; exact hx else hd.out j (by omega)
      generalize hy : gi l k = y at *
      clear hy
      by_cases h0 : x = y
      · have HR := HXK.out (by simpa using h0)
        have e0 : (y == x) = true := by simpa using h0.symm
        have HR' := Lib.hid HR
        clear h0 HR
        go_wp2_with fail
        go_ret
        exact ⟨ret_bool HR'.out.symm, hQ.out⟩
      · have HR := Lib.hid (HXN.out (by simpa using h0))
        have e0 : (y == x) = false := by simpa using fun q : y = x => h0 q.symm
        clear h0
        go_wp2_with fail
        go_roundw
        case rel => exact ⟨k + 1, by omega, by go_num, hQ.out, HR.out⟩
        case measure => simp [intOf]; omega
    · obtain rfl : k = l.length := by omega
      have HR := Lib.hid (any_none hd.out)
      go_wp2_with fail
      go_ret
      exact ⟨ret_bool (by rw [HR.out]), hQ.out⟩
/-- How many of the first numbers are in another list. -/
def comK (a b : List Int) : Nat → Nat
  | 0 => 0
  | k + 1 => comK a b k + if gi a k ∈ b then 1 else 0
theorem comK_le (a b : List Int) : ∀ k, comK a b k ≤ k
  | 0 => Nat.le_refl _
  | k + 1 => by have := comK_le a b k; rw [comK]; split <;> omega
set_option maxRecDepth 100000 in
set_option maxHeartbeats 2000000 in
theorem rcommon_t (S T : Nat → Prop) (w : World) (v u : Value) (a b : List Int) (h : IntsAt S w v a) (h2 : IntsAt T w u b) (hn : a.length ≤ 1000000) (hm : b.length ≤ 1000000) :
    Calls Tryz.prog 68 #[v, u] w fun e w' => e = .returned (.int .i64 (comK a b a.length)) ∧ QD w w' := by
  have HI0 := h
  obtain ⟨p, cap, rfl, hcap, H⟩ := SlAt.open h
  have HI := Lib.hid HI0
  have HB := Lib.hid h2
  clear h HI0 H h2
  go_enter Tryz.func68, Tryz.ntmps68
  go_wp2_with fail
  go_loopw [5, 6] (fun n i wr => ∃ k : Nat, k ≤ a.length ∧ i = .int .i64 k ∧ n = .int .i64 (comK a b k) ∧ Hid (QD w wr)) (fun _ i _ => a.length - (intOf i).toNat)
  case atStart => exact ⟨0, Nat.zero_le _, rfl, rfl, QD.refl _⟩
  case round =>
    obtain ⟨k, hk, rfl, rfl, hQ⟩ := hrel
    obtain ⟨wo, rfl⟩ : ∃ wo : World, wo = wr := ⟨_, rfl⟩
    by_cases hlt : k < a.length
    · obtain ⟨q, off, rfl, hc⟩ := ints_get (IntsAt.keep HI.out (hQ.out.kept S)) hlt
      have i1 : (0 : Int) ≤ (k : Int) := by omega
      have i2 : (k : Int) < (a.length : Int) := by omega
      have HK : Hid (comK a b (k + 1) = comK a b k + if gi a k ∈ b then 1 else 0) := rfl
      have hcl := comK_le a b k
      have HC := Lib.hid (rhas_t T wo u b (gi a k) (IntsAt.keep HB.out (hQ.out.kept T)) hm)
      generalize gi a k = y at *
      generalize comK a b k = c at *
      go_wp2_with fail
      refine HC.out.mono ?_
      rintro e w2 ⟨rfl, hq2⟩
      obtain ⟨nq2, rfl⟩ := hq2
      have HQ2 := Lib.hid (hQ.out.drewN nq2)
      by_cases h0 : y ∈ b
      · have e0 : decide (y ∈ b) = true := by simpa using h0
        have HK2 : Hid (comK a b (k + 1) = c + 1) := by rw [Hid, HK.out, if_pos h0]
        clear h0
        rw [e0]
        go_wp2_with fail
        go_roundw
        case rel => exact ⟨k + 1, by omega, by go_num, by rw [HK2.out]; go_num, HQ2.out⟩
        case measure => simp [intOf]; omega
      · have e0 : decide (y ∈ b) = false := by simpa using h0
        have HK2 : Hid (comK a b (k + 1) = c) := by rw [Hid, HK.out, if_neg h0]; rfl
        clear h0
        rw [e0]
        go_wp2_with fail
        go_roundw
        case rel => exact ⟨k + 1, by omega, by go_num, by rw [HK2.out], HQ2.out⟩
        case measure => simp [intOf]; omega
    · obtain rfl : k = a.length := by omega
      go_wp2_with fail
      go_ret
      exact ⟨rfl, hQ.out⟩
/-- The reference's word for neither nested nor disjoint. -/
def rcfB (a b : List Int) : Bool := decide (0 < comK a b a.length) && decide (comK a b a.length < a.length) && decide (comK a b a.length < b.length)
set_option maxRecDepth 100000 in
set_option maxHeartbeats 2000000 in
theorem rconflict_t (S T : Nat → Prop) (w : World) (v u : Value) (a b : List Int) (h : IntsAt S w v a) (h2 : IntsAt T w u b) (hn : a.length ≤ 1000000) (hm : b.length ≤ 1000000) :
    Calls Tryz.prog 55 #[v, u] w fun e w' => e = .returned (.bool (rcfB a b)) ∧ QD w w' := by
  have HC := Lib.hid (rcommon_t S T w v u a b h h2 hn hm)
  obtain ⟨p, cap, rfl, hcap, _⟩ := SlAt.open h
  obtain ⟨p2, cap2, rfl, hcap2, _⟩ := SlAt.open h2
  clear h h2
  have HD : Hid (rcfB a b = (decide (0 < comK a b a.length) && decide (comK a b a.length < a.length) && decide (comK a b a.length < b.length))) := rfl
  have hcl := comK_le a b a.length
  generalize rcfB a b = r at *
  generalize comK a b a.length = c at *
  go_enter Tryz.func55, Tryz.ntmps55
  go_wp2_with fail
  refine HC.out.mono ?_
  rintro e w2 ⟨rfl, hq2⟩
  have HQ := Lib.hid hq2
  clear hq2 HC
  go_wp2_with fail
  all_goals go_ret
  all_goals exact ⟨ret_bool (by rw [HD.out]; clear HD; simp [*]), HQ.out⟩
end Go.Proofs.YtgjcfkadioblfaaGreat
