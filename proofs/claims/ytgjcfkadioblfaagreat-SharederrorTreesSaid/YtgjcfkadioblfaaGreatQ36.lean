/- The sets of layer 35's reference are nested, and their tree is the program's: plain. -/
import Derived.Test.YtgjcfkadioblfaaGreatQ35
namespace Go.Proofs.YtgjcfkadioblfaaGreat
section
variable {names : List ByteArray} {l : List Grp}
theorem mem_setsL {n : Nat} (hn : 0 < n) {x : List Int} : x ∈ setsL n l ↔ x = allI n ∨ (∃ i, i < l.length ∧ (gg l i).src = x ∧ 2 ≤ x.length ∧ x.length < n) ∨ (1 < n ∧ ∃ i : Nat, i < n ∧ x = [(i : Int)]) := by
  unfold setsL
  by_cases h1 : 1 < n
  · rw [if_pos h1, List.mem_append, (stZ_ord h1 (n - 2) (Nat.le_refl _)).2.2 x, show n - (n - 2) = 2 by omega, List.mem_map, or_assoc]
    constructor
    · rintro (e | e | ⟨i, hi, rfl⟩)
      · exact .inl e
      · exact .inr (.inl e)
      · exact .inr (.inr ⟨h1, i, List.mem_range.1 hi, rfl⟩)
    · rintro (e | e | ⟨_, i, hi, rfl⟩)
      · exact .inl e
      · exact .inr (.inl e)
      · exact .inr (.inr ⟨i, List.mem_range.2 hi, rfl⟩)
  · obtain rfl : n = 1 := by omega
    rw [if_neg h1]
    show x ∈ [allI 1] ↔ _
    rw [List.mem_singleton]
    constructor
    · exact .inl
    · rintro (e | ⟨i, _, _, _, _⟩ | ⟨_, _⟩)
      · exact e
      · omega
      · omega
theorem stI_head {S : List (List Int)} {size : Nat} (h : 0 < S.length) : ∀ k, 0 < (stI l S size k).length ∧ gl (stI l S size k) 0 = gl S 0
  | 0 => ⟨h, rfl⟩
  | k + 1 => by
    obtain ⟨h1, h2⟩ := stI_head h k
    rw [stI]
    split
    · exact ⟨h1, h2⟩
    · refine ⟨by rw [List.length_append]; omega, ?_⟩
      rw [← h2]; unfold gl; rw [List.getD_eq_getElem?_getD, List.getD_eq_getElem?_getD, List.getElem?_append_left h1]
theorem stZ_head (n : Nat) : ∀ k, 0 < (stZ n l k).length ∧ gl (stZ n l k) 0 = allI n
  | 0 => ⟨by simp [stZ], rfl⟩
  | k + 1 => by
    obtain ⟨h1, h2⟩ := stZ_head n k
    obtain ⟨h3, h4⟩ := stI_head (l := l) (size := n - 1 - k) h1 l.length
    exact ⟨h3, h4.trans h2⟩
theorem ShOk.src_asc (h : ShOk names l) {k : Nat} (hk : k < l.length) : (gg l k).src.Pairwise (· < ·) ∧ (gg l k).src ≠ [] ∧ ∀ y ∈ (gg l k).src, 0 ≤ y ∧ y < (names.length : Int) := by
  have hs := ((gcErr_zero h.gc).2 k hk).2.2.2
  refine ⟨?_, fun e => ?_, fun y hy => ⟨?_, h.far k hk y hy⟩⟩
  · have hb := src_bits (n := names.length) hs (fun x hx => h.far k hk x hx)
    rw [hb, List.pairwise_map]
    exact (bits_asc _ _).imp fun h => Int.ofNat_lt.2 h
  · have := (srcOk_small hs).2.1
    rw [e] at this; simp at this
  · obtain ⟨q, rfl, _⟩ := small_mem (srcOk_small hs).1 hy
    omega
theorem ShOk.src_lam (h : ShOk names l) {i k : Nat} (hi : i < l.length) (hk : k < l.length) : (∀ z ∈ (gg l i).src, z ∈ (gg l k).src) ∨ (∀ z ∈ (gg l k).src, z ∈ (gg l i).src) ∨ ∀ z ∈ (gg l i).src, z ∉ (gg l k).src := by
  have hw : ∀ {a b : Nat}, a < l.length → b < l.length → withinB (ofS (gg l a).src) (ofS (gg l b).src) = true → ∀ z ∈ (gg l a).src, z ∈ (gg l b).src := fun {a b} ha hb hw z hz => by
    obtain ⟨q, rfl, _⟩ := small_mem (h.small ha) hz
    exact (h.bits hb).1 ((withinB_iff (ofS_u64 (h.small ha)) (ofS_u64 (h.small hb))).1 hw q ((h.bits ha).2 hz))
  have hd : ∀ {a b : Nat}, a < l.length → b < l.length → ofS (gg l a).src &&& ofS (gg l b).src = 0 → ∀ z ∈ (gg l a).src, z ∉ (gg l b).src := fun {a b} ha hb he z hz hz2 => by
    obtain ⟨q, rfl, _⟩ := small_mem (h.small ha) hz
    have h1 := (h.bits ha).2 hz
    have h2 := (h.bits hb).2 hz2
    have := congrArg (fun x => x.testBit q) he
    simp [Nat.testBit_and, h1, h2] at this
  rcases Nat.lt_trichotomy i k with c | c | c
  · rcases conf_cases (h.cf i k c hk) with q | q | q
    · exact .inl (hw hi hk q)
    · exact .inr (.inl (hw hk hi q))
    · exact .inr (.inr (hd hi hk q))
  · subst c; exact .inl fun z hz => hz
  · rcases conf_cases (h.cf k i c hi) with q | q | q
    · exact .inr (.inl (hw hk hi q))
    · exact .inl (hw hi hk q)
    · exact .inr (.inr (hd hi hk (by rw [Nat.and_comm]; exact q)))
theorem ShOk.sets (h : ShOk names l) : SetsOk names.length (setsL names.length l) := by
  have hn := h.pos
  have asc : ∀ x ∈ setsL names.length l, x.Pairwise (· < ·) ∧ x ≠ [] ∧ ∀ y ∈ x, 0 ≤ y ∧ y < (names.length : Int) := fun x hx => by
    rcases (mem_setsL hn).1 hx with rfl | ⟨i, hi, rfl, _, _⟩ | ⟨_, i, hi, rfl⟩
    · refine ⟨?_, fun e => ?_, fun y hy => mem_allI.1 hy⟩
      · unfold allI
        rw [List.pairwise_map]
        exact List.pairwise_lt_range.imp fun h => Int.ofNat_lt.2 h
      · have := congrArg List.length e
        rw [allI_len, List.length_nil] at this; omega
    · exact h.src_asc hi
    · refine ⟨by simp, by simp, fun y hy => ?_⟩
      rw [List.mem_singleton] at hy; omega
  refine ⟨asc, fun x hx y hy => ?_, ?_, ?_, ?_, ?_, fun i hi => ?_⟩
  · have top : ∀ {u : List Int}, u ∈ setsL names.length l → ∀ z ∈ u, z ∈ allI names.length := fun hu z hz => mem_allI.2 ((asc _ hu).2.2 z hz)
    have single : ∀ {u : List Int} {i : Int}, (∀ z ∈ [i], z ∈ u) ∨ ∀ z ∈ [i], z ∉ u := fun {u i} => by
      by_cases c : i ∈ u
      · exact .inl fun z hz => by rw [List.mem_singleton] at hz; rw [hz]; exact c
      · exact .inr fun z hz => by rw [List.mem_singleton] at hz; rw [hz]; exact c
    rcases (mem_setsL hn).1 hx with rfl | ⟨i, hi, rfl, _, _⟩ | ⟨_, i, hi, rfl⟩
    · exact .inr (.inl (top hy))
    · rcases (mem_setsL hn).1 hy with rfl | ⟨k, hk, rfl, _, _⟩ | ⟨_, k, hk, rfl⟩
      · exact .inl (top hx)
      · exact h.src_lam hi hk
      · rcases single (u := (gg l i).src) (i := (k : Int)) with q | q
        · exact .inr (.inl q)
        · exact .inr (.inr fun z hz c => q z c hz)
    · rcases single (u := y) (i := (i : Int)) with q | q
      · exact .inl q
      · exact .inr (.inr q)
  · unfold setsL
    by_cases h1 : 1 < names.length
    · rw [if_pos h1]
      obtain ⟨g1, _, g3⟩ := stZ_ord (l := l) h1 (names.length - 2) (Nat.le_refl _)
      refine List.nodup_append.2 ⟨g1, ?_, fun a ha b hb e => ?_⟩
      · unfold List.Nodup
        rw [List.pairwise_map]
        exact List.pairwise_lt_range.imp fun h e => by simp at e; omega
      · subst e
        obtain ⟨i, hi, rfl⟩ := List.mem_map.1 hb
        rcases (g3 _).1 ha with q | ⟨_, _, _, q, _⟩
        · have := congrArg List.length q
          rw [allI_len] at this; simp at this; omega
        · simp at q; omega
    · rw [if_neg h1]
      have : names.length - 2 = 0 := by omega
      rw [this]; simp [stZ]
  · unfold setsL
    by_cases h1 : 1 < names.length
    · rw [if_pos h1]
      obtain ⟨_, g2, g3⟩ := stZ_ord (l := l) h1 (names.length - 2) (Nat.le_refl _)
      refine List.pairwise_append.2 ⟨g2, ?_, fun a ha b hb => ?_⟩
      · rw [List.pairwise_map]
        exact List.pairwise_lt_range.imp fun _ => by simp
      · obtain ⟨i, hi, rfl⟩ := List.mem_map.1 hb
        rcases (g3 _).1 ha with rfl | ⟨_, _, _, q, _⟩
        · rw [allI_len]; simp; omega
        · simp; omega
    · rw [if_neg h1]
      have : names.length - 2 = 0 := by omega
      rw [this]; simp [stZ]
  · obtain ⟨g, _⟩ := stZ_head (l := l) names.length (names.length - 2)
    unfold setsL
    split
    · rw [List.length_append]; omega
    · exact g
  · obtain ⟨g, e⟩ := stZ_head (l := l) names.length (names.length - 2)
    unfold setsL
    split
    · rw [← e]; unfold gl; rw [List.getD_eq_getElem?_getD, List.getD_eq_getElem?_getD, List.getElem?_append_left g]
    · exact e
  · rw [mem_setsL hn]
    by_cases h1 : 1 < names.length
    · exact .inr (.inr ⟨h1, i, hi, rfl⟩)
    · left
      have e1 : names.length = 1 := by omega
      have : i = 0 := by omega
      subst this; rw [e1]; rfl
theorem lv_bits {s : RT} {x : Nat} (h : (leafR s).Perm ((bitsN names.length x).map (gs names))) {u : List Int} (hu : ∀ b : Nat, (b : Int) ∈ u ↔ b < names.length ∧ x.testBit b = true) : Lv names s u := fun y => by
  rw [h.mem_iff, List.mem_map]
  constructor
  · rintro ⟨b, hb, rfl⟩; exact ⟨b, (hu b).2 (mem_bitsN.1 hb), rfl⟩
  · rintro ⟨b, hb, rfl⟩; exact ⟨b, mem_bitsN.2 ((hu b).1 hb), rfl⟩
theorem ShOk.src_lv (h : ShOk names l) {k : Nat} (hk : k < l.length) (b : Nat) : (b : Int) ∈ (gg l k).src ↔ b < names.length ∧ (ofS (gg l k).src).testBit b = true := by
  rw [h.bits hk]
  exact ⟨fun q => ⟨by have := h.far k hk _ q; omega, q⟩, fun q => q.2⟩
theorem fin_root (h0 : shErr names l = 0) : Lv names (finR names l) (allI names.length) := fun y => by
  rw [(finR_ok h0).1.mem_iff]
  constructor
  · intro hy
    obtain ⟨b, hb, e⟩ := List.getElem_of_mem hy
    exact ⟨b, mem_allI.2 (by omega), by simp [gs, hb, e]⟩
  · rintro ⟨b, hb, rfl⟩
    have := (mem_allI.1 hb).2
    have hb : b < names.length := by omega
    simp [gs, hb]
theorem lv_leaf (h : ShOk names l) {b : Nat} (hb : b < names.length) : Lv names (.node (gs names b) []) [(b : Int)] := fun y => by
  rw [leafR_leaf (named_size (h.nm b hb))]
  constructor
  · intro hy; exact ⟨b, by simp, by simpa using hy⟩
  · rintro ⟨b', hb', rfl⟩
    have : b' = b := by have := List.mem_singleton.1 hb'; omega
    subst this; simp
theorem fin_has (h0 : shErr names l = 0) : ∀ x ∈ setsL names.length l, ∃ s ∈ subR (finR names l), Lv names s x := fun x hx => by
  have h := shErr_ok h0
  rcases (mem_setsL h.pos).1 hx with rfl | ⟨i, hi, rfl, _, _⟩ | ⟨_, i, hi, rfl⟩
  · exact ⟨_, subR_self _, fin_root h0⟩
  · obtain ⟨s, hs, hp⟩ := group_part h0 hi
    exact ⟨s, hs, lv_bits hp (h.src_lv hi)⟩
  · refine ⟨_, leaf_part (finR_ok h0).2.1 ((finR_ok h0).1.mem_iff.2 (show gs names i ∈ names by simp [gs, hi])), lv_leaf h hi⟩
theorem lv_sort {s : RT} {x : List Int} (h : Lv names s x) : Lv names (sortR s) x := fun y => by rw [(leafR_sort s).mem_iff]; exact h y
theorem fin_sub (h0 : shErr names l = 0) : ∀ s ∈ subR (finR names l), ∃ x ∈ setsL names.length l, Lv names s x := fun s hs => by
  have h := shErr_ok h0
  by_cases h1 : names.length = 1
  · have hf : finR names l = .node (gs names 0) [] := by unfold finR; rw [if_pos h1]
    rw [hf, subR, subRs] at hs
    obtain rfl : s = .node (gs names 0) [] := by simpa using hs
    exact ⟨_, h.sets.sing 0 h.pos, lv_leaf h h.pos⟩
  · have h2 : 2 ≤ names.length := by have := h.pos; omega
    have hfin : finR names l = sortR (shR names l) := by unfold finR; rw [if_neg h1]
    have hroot : Lv names (shR names l) (allI names.length) := fun y => by
      have := fin_root h0 y
      rw [hfin, (leafR_sort _).mem_iff] at this; exact this
    rw [hfin] at hs
    obtain ⟨q, hq, rfl⟩ := List.mem_map.1 ((subR_sort _).mem_iff.1 hs)
    have hL := h.lam
    have key : ∃ x ∈ setsL names.length l, Lv names q x := by
      cases hsh : shR names l with
      | node nm ks =>
        rw [hsh, subR, List.mem_cons] at hq
        rcases hq with e | hq
        · rw [e, ← hsh]
          exact ⟨_, (mem_setsL h.pos).2 (.inl rfl), hroot⟩
        · have hk : ks = (growR names (innL l (allN names.length)) (allN names.length + 1) (allN names.length)).kids := by
            have : (shR names l).kids = ks := by rw [hsh]; rfl
            rw [← this]; rfl
          rw [hk] at hq
          rcases subs_grow names _ _ _ q hL.u (all_u64 h.le) (by omega) hq with ⟨i, hi, rfl⟩ | ⟨y, e, hy, hye, rfl⟩
          · exact ⟨_, h.sets.sing i hi, lv_leaf h hi⟩
          · have hp := (growR_ok h.le h.nm hL e y hye (hL.u _ hy) (hL.sub _ hy) (hL.two _ hy)).1
            obtain ⟨j, hj, rfl, h3, h4⟩ := innK_mem hy
            refine ⟨(gg l j).src, (mem_setsL h.pos).2 ?_, lv_bits hp (h.src_lv hj)⟩
            refine .inr (.inl ⟨j, hj, rfl, by omega, ?_⟩)
            -- a group of all the sources is the whole set
            have hasc := h.src_asc hj
            have nd : (gg l j).src.Nodup := hasc.1.imp fun h => by omega
            have hle := nd.length_le_of_subset (l₂ := allI names.length) (fun z hz => mem_allI.2 (hasc.2.2 z hz))
            rw [allI_len] at hle
            rcases Nat.lt_or_eq_of_le hle with c | c
            · exact c
            · exfalso
              have hpm := perm_subI nd (fun z hz => mem_allI.2 (hasc.2.2 z hz)) (by rw [allI_len]; omega)
              apply h4
              apply Nat.eq_of_testBit_eq
              intro b
              rw [Bool.eq_iff_iff]
              constructor
              · intro hb; exact all_bit (hL.sub _ hy b hb)
              · intro hb
                have hbn : b < names.length := by
                  unfold allN at hb
                  rw [Nat.testBit_two_pow_sub_one] at hb; simpa using hb
                exact (h.bits hj).2 (hpm.mem_iff.2 (mem_allI.2 (by omega)))
    obtain ⟨x, hx, hlv⟩ := key
    exact ⟨x, hx, lv_sort hlv⟩
theorem fin_size (h0 : shErr names l = 0) : sizeR (finR names l) ≤ 63 := by
  have h := shErr_ok h0
  obtain ⟨g1, g2, _⟩ := finR_ok h0
  have := size_le _ g2
  rw [g1.length_eq] at this
  have := h.le
  omega
theorem sets_count (h0 : shErr names l = 0) : (setsL names.length l).length ≤ 64 := by
  have h := shErr_ok h0
  have hs := h.sets
  have hsz := fin_size h0
  rw [← subR_len] at hsz
  have hex : ∀ i : Nat, ∃ j : Nat, i < (setsL names.length l).length → j < (subR (finR names l)).length ∧ ∃ s, (subR (finR names l))[j]? = some s ∧ Lv names s (gl (setsL names.length l) i) := fun i => by
    by_cases hi : i < (setsL names.length l).length
    · obtain ⟨s, hs, hl⟩ := fin_has h0 _ (gl_mem hi)
      obtain ⟨j, hj, e⟩ := List.getElem_of_mem hs
      exact ⟨j, fun _ => ⟨hj, s, by rw [List.getElem?_eq_getElem hj, e], hl⟩⟩
    · exact ⟨0, fun q => absurd q hi⟩
  obtain ⟨f, hf⟩ := Classical.axiomOfChoice hex
  have hnd : ((List.range (setsL names.length l).length).map f).Nodup := by
    unfold List.Nodup
    rw [List.pairwise_map]
    refine List.Pairwise.imp_of_mem ?_ List.pairwise_lt_range
    intro a b ha hb hab e
    have ha := List.mem_range.1 ha
    have hb := List.mem_range.1 hb
    obtain ⟨_, s, hs1, hl1⟩ := hf a ha
    obtain ⟨_, u, hu1, hl2⟩ := hf b hb
    rw [e, hu1] at hs1
    injection hs1 with hs1
    subst hs1
    have hin : ∀ p q : Nat, p < names.length → q < names.length → gs names p = gs names q → p = q := fun p q hp hq e => by
      rcases Nat.lt_trichotomy p q with c | c | c
      · exact absurd e.symm (h.nd p q c hq)
      · exact c
      · exact absurd e (h.nd q p c hp)
    have sub : ∀ {x y : List Int}, x ∈ setsL names.length l → y ∈ setsL names.length l → Lv names u x → Lv names u y → ∀ z ∈ x, z ∈ y := fun {x y} hx hy h1 h2 z hz => by
      obtain ⟨z0, zn⟩ := (hs.asc x hx).2.2 z hz
      obtain ⟨p, rfl⟩ : ∃ p : Nat, z = p := ⟨z.toNat, by omega⟩
      obtain ⟨q, hq, e⟩ := (h2 _).1 ((h1 _).2 ⟨p, hz, rfl⟩)
      have hqn := (hs.asc y hy).2.2 _ hq
      rw [hin p q (by omega) (by omega) e]; exact hq
    have e1 := asc_eq (hs.asc _ (gl_mem ha)).1 (hs.asc _ (gl_mem hb)).1 (sub (gl_mem ha) (gl_mem hb) hl1 hl2) (sub (gl_mem hb) (gl_mem ha) hl2 hl1)
    have := hs.at_eq ha hb e1
    omega
  have := nodup_le hnd (n := (subR (finR names l)).length) fun x hx => by
    obtain ⟨i, hi, rfl⟩ := List.mem_map.1 hx
    exact (hf i (List.mem_range.1 hi)).1
  rw [List.length_map, List.length_range] at this
  omega
/-- The reference's tree of the sets, canonical, is the program's tree. -/
theorem set_tree (h0 : shErr names l = 0) : treeErr (setT names (setsL names.length l)) = 0 ∧ canT (setT names (setsL names.length l)) = shTree names l := by
  have h := shErr_ok h0
  have hc := sets_count h0
  have ht := h.sets.tree h hc
  refine ⟨ht, ?_⟩
  obtain ⟨g1, g2, g3⟩ := finR_ok h0
  have hr : OkU (finR names l) := ⟨g1.nodup_iff.2 (names_nodup h), g2⟩
  rw [canT_flat ht, h.sets.same h hc hr (fin_sub h0) (fin_has h0), g3, shTree_fin h0]
end
end Go.Proofs.YtgjcfkadioblfaaGreat
