/- The tree that layer 35's reference makes of the sets is, sorted, the program's tree: plain. Trees whose nodes stand for nested sets of names: valid, without one-child nodes; their parts. Plain. Forests whose nodes change below one node: plain. -/
import Derived.Test.YtcbmbhghmfehpaaGreatQ17
import Derived.Test.YtcbmbhghmfehpaaGreatQ13
namespace Go.Proofs.YtcbmbhghmfehpaaGreat
section
variable {names : List ByteArray} {l : List Grp} {S : List (List Int)}
theorem set_len (names : List ByteArray) (S : List (List Int)) : (setT names S).ps.length = S.length := by simp [setT]
theorem set_ps {i : Nat} (hi : i < S.length) : gi (setT names S).ps i = parI S i i := by simp [setT, gi, hi]
theorem set_ns {i : Nat} (hi : i < S.length) : gs (setT names S).ns i = nmI names (gl S i) := by simp [setT, gs, gl, hi]
theorem SetsOk.inn (h : SetsOk names.length S) {i : Nat} (hi : i < S.length) : isIn (setT names S).ps i = true ↔ (gl S i).length ≠ 1 := by
  unfold isIn inK
  rw [List.any_eq_true, set_len]
  constructor
  · rintro ⟨c, hc, e⟩ h1
    have hc := List.mem_range.1 hc
    rw [Bool.and_eq_true, decide_eq_true_eq, beq_iff_eq, set_ps hc] at e
    obtain ⟨s1, s2⟩ := h.kid_sub hc e.1 e.2
    obtain ⟨b, hb⟩ := List.length_eq_one_iff.1 h1
    obtain ⟨z, hz⟩ := h.meet hc
    have hzb := s1 z hz
    rw [hb, List.mem_singleton] at hzb
    have := h.eq_of hi hc (fun x hx => by rw [hb, List.mem_singleton] at hx; rw [hx, ← hzb]; exact hz) s1
    omega
  · intro h1
    obtain ⟨x, hx⟩ := h.meet hi
    obtain ⟨c, c1, c2, c3, _⟩ := h.kid_of hi h1 hx
    exact ⟨c, List.mem_range.2 c1, by rw [set_ps c1, c3]; simp; omega⟩
theorem SetsOk.one (h : SetsOk names.length S) {i : Nat} (hi : i < S.length) (h1 : (gl S i).length = 1) : ∃ b : Nat, b < names.length ∧ gl S i = [(b : Int)] ∧ gs (setT names S).ns i = gs names b := by
  obtain ⟨x, hx⟩ := List.length_eq_one_iff.1 h1
  obtain ⟨x0, xn⟩ := (h.asc _ (gl_mem hi)).2.2 x (by rw [hx]; simp)
  refine ⟨x.toNat, by omega, by rw [hx]; congr 1; omega, ?_⟩
  rw [set_ns hi, nmI, if_pos h1, hx]; rfl
theorem SetsOk.big (_h : SetsOk names.length S) {i : Nat} (hi : i < S.length) (h1 : (gl S i).length ≠ 1) : (gs (setT names S).ns i).size = 0 := by
  rw [set_ns hi, nmI, if_neg h1]; rfl
theorem SetsOk.pok (h : SetsOk names.length S) : pOkB (setT names S).ps = true := by
  unfold pOkB
  rw [List.all_eq_true]
  intro i hi
  have hi := List.mem_range.1 hi
  rw [set_len] at hi
  rw [set_ps hi]
  unfold okp
  by_cases c : i = 0
  · subst c; rfl
  · rw [if_neg c]
    obtain ⟨p, h1, h2, _⟩ := h.par hi (by omega)
    rw [h2]; simp; omega
theorem SetsOk.tree (hk : ShOk names l) (h : SetsOk names.length S) (hS : S.length ≤ 64) : treeErr (setT names S) = 0 := by
  have hp := h.pos
  unfold treeErr
  rw [set_len, if_neg (by omega), if_neg (by omega), if_neg (by simp [setT]), if_pos h.pok]
  refine firstNZ_zero fun i hi => ?_
  unfold nErr
  by_cases h1 : (gl S i).length = 1
  · rw [if_neg (fun q => (h.inn hi).1 q h1)]
    obtain ⟨b, hb, e, en⟩ := h.one hi h1
    have hn := hk.nm b hb
    rw [en, if_pos hn, if_neg]
    intro q
    unfold seenK at q
    obtain ⟨j, hj, e2⟩ := List.any_eq_true.1 q
    have hj := List.mem_range.1 hj
    have e2 := of_decide_eq_true e2
    rw [en] at e2
    by_cases j1 : (gl S j).length = 1
    · obtain ⟨b', hb', e', en'⟩ := h.one (show j < S.length by omega) j1
      rw [en'] at e2
      have : b' = b := by
        rcases Nat.lt_trichotomy b' b with c | c | c
        · exact absurd e2.symm (hk.nd b' b c hb)
        · exact c
        · exact absurd e2 (hk.nd b b' c hb')
      subst this
      have := h.at_eq (show j < S.length by omega) hi (by rw [e', e])
      omega
    · have := h.big (show j < S.length by omega) j1
      rw [e2] at this
      exact named_size hn this
  · rw [if_pos ((h.inn hi).2 h1), if_pos (h.big hi h1)]
def Lv (names : List ByteArray) (s : RT) (x : List Int) : Prop := ∀ y, y ∈ leafR s ↔ ∃ b : Nat, (b : Int) ∈ x ∧ y = gs names b
theorem SetsOk.leaves (hk : ShOk names l) (h : SetsOk names.length S) (hS : S.length ≤ 64) : ∀ d i, S.length - i ≤ d → i < S.length → Lv names (toRF (frT (setT names S)) (rkT (setT names S)) i) (gl S i)
  | 0, i, hd, hi => by omega
  | d + 1, i, hd, hi => by
    have ht := h.tree hk hS
    have hi' : i < (setT names S).ps.length := by rw [set_len]; exact hi
    intro y
    rw [toRF_eq (frT_arb ht).wf hi', frT_kids, show (frT (setT names S)).nm i = gs (setT names S).ns i from rfl]
    by_cases h1 : (gl S i).length = 1
    · obtain ⟨b, hb, e, en⟩ := h.one hi h1
      have hkid : kidsL (setT names S).ps i = [] := by
        rw [List.eq_nil_iff_forall_not_mem]
        intro c hc
        obtain ⟨c1, c2, c3⟩ := mem_kidsL.1 hc
        refine (h.inn hi).1 ?_ h1
        unfold isIn inK
        rw [List.any_eq_true]
        exact ⟨c, List.mem_range.2 c1, by rw [c3]; simp; omega⟩
      rw [hkid, List.map_nil, en, leafR_leaf (named_size (hk.nm b hb)), e]
      constructor
      · intro hy; exact ⟨b, by simp, by simpa using hy⟩
      · rintro ⟨b', hb', rfl⟩
        have : b' = b := by have := List.mem_singleton.1 hb'; omega
        subst this; simp
    · rw [leafR_node (h.big hi h1), List.mem_flatMap]
      constructor
      · rintro ⟨q, hq, hy⟩
        obtain ⟨c, hc, rfl⟩ := List.mem_map.1 hq
        obtain ⟨c1, c2, c3⟩ := mem_kidsL.1 hc
        rw [set_len] at c1
        rw [set_ps c1] at c3
        obtain ⟨b, hb, e⟩ := (SetsOk.leaves hk h hS d c (by omega) c1 y).1 hy
        exact ⟨b, (h.kid_sub c1 (by omega) c3).1 _ hb, e⟩
      · rintro ⟨b, hb, rfl⟩
        obtain ⟨c, c1, c2, c3, c4⟩ := h.kid_of hi h1 hb
        exact ⟨_, List.mem_map.2 ⟨c, mem_kidsL.2 ⟨by rw [set_len]; exact c1, c2, by rw [set_ps c1]; exact c3⟩, rfl⟩, (SetsOk.leaves hk h hS d c (by omega) c1 _).2 ⟨b, c4, rfl⟩⟩
theorem SetsOk.part (hk : ShOk names l) (h : SetsOk names.length S) (hS : S.length ≤ 64) {i : Nat} (hi : i < S.length) : PartOk (toRF (frT (setT names S)) (rkT (setT names S)) i) := by
  have ht := h.tree hk hS
  have hi' : i < (setT names S).ps.length := by rw [set_len]; exact hi
  have hkid : ∀ c, c ∈ kidsL (setT names S).ps i → c < S.length ∧ i < c ∧ parI S c c = (i : Int) := fun c hc => by
    obtain ⟨c1, c2, c3⟩ := mem_kidsL.1 hc
    rw [set_len] at c1
    rw [set_ps c1] at c3
    exact ⟨c1, c2, c3⟩
  unfold PartOk
  rw [toRF_nm (frT_arb ht).wf hi', toRF_kids (frT_arb ht).wf hi', frT_kids, show (frT (setT names S)).nm i = gs (setT names S).ns i from rfl]
  by_cases h1 : (gl S i).length = 1
  · obtain ⟨b, hb, e, en⟩ := h.one hi h1
    have hnil : kidsL (setT names S).ps i = [] := by
      rw [List.eq_nil_iff_forall_not_mem]
      intro c hc
      obtain ⟨c1, c2, c3⟩ := mem_kidsL.1 hc
      refine (h.inn hi).1 ?_ h1
      unfold isIn inK
      rw [List.any_eq_true]
      exact ⟨c, List.mem_range.2 c1, by rw [c3]; simp; omega⟩
    rw [hnil, en]
    exact ⟨fun q => absurd rfl q, fun _ => hk.nm b hb, by simp⟩
  · have hof : ∀ x ∈ gl S i, ∃ c ∈ kidsL (setT names S).ps i, x ∈ gl S c := fun x hx => by
      obtain ⟨c, c1, c2, c3, c4⟩ := h.kid_of hi h1 hx
      exact ⟨c, mem_kidsL.2 ⟨by rw [set_len]; exact c1, c2, by rw [set_ps c1]; exact c3⟩, c4⟩
    refine ⟨fun _ => h.big hi h1, fun q => ?_, fun q => ?_⟩
    · have q : kidsL (setT names S).ps i = [] := by simpa using q
      obtain ⟨x, hx⟩ := h.meet hi
      obtain ⟨c, hc, _⟩ := hof x hx
      rw [q] at hc; cases hc
    · rw [List.length_map] at q
      obtain ⟨c, hc⟩ := List.length_eq_one_iff.1 q
      obtain ⟨c1, c2, c3⟩ := hkid c (by rw [hc]; simp)
      have := h.eq_of hi c1 (fun x hx => by
        obtain ⟨c', hc', hx'⟩ := hof x hx
        rw [hc, List.mem_singleton] at hc'
        subst hc'; exact hx') (h.kid_sub c1 (by omega) c3).1
      omega
theorem SetsOk.oku (hk : ShOk names l) (h : SetsOk names.length S) (hS : S.length ≤ 64) : OkU (toR (setT names S)) := by
  have ht := h.tree hk hS
  refine ⟨(good_toR ht).nd, fun s hs => ?_⟩
  rw [subR_toR ht] at hs
  obtain ⟨j, hj, rfl⟩ := List.mem_map.1 hs
  have := mem_nodes_lt ht hj
  rw [set_len] at this
  exact h.part hk hS this
theorem SetsOk.node (hk : ShOk names l) (h : SetsOk names.length S) (hS : S.length ≤ 64) : ∀ (d i : Nat), i ≤ d → i < S.length → toRF (frT (setT names S)) (rkT (setT names S)) i ∈ subR (toR (setT names S))
  | d, i, hd, hi => by
    have ht := h.tree hk hS
    by_cases h0 : i = 0
    · subst h0; exact subR_self _
    · obtain ⟨p, p1, p2, _⟩ := h.par hi (by omega)
      cases d with
      | zero => omega
      | succ d =>
        have ih := SetsOk.node hk h hS d p (by omega) (by omega)
        refine subR_trans _ ih ?_
        have hp' : p < (setT names S).ps.length := by rw [set_len]; omega
        rw [toRF_eq (frT_arb ht).wf hp', frT_kids]
        exact mem_kid (List.mem_map.2 ⟨i, mem_kidsL.2 ⟨by rw [set_len]; exact hi, p1, by rw [set_ps hi]; exact p2⟩, rfl⟩)
theorem fam_lv {names : List ByteArray} {S : List (List Int)} {r1 r2 : RT} (h1 : ∀ s ∈ subR r1, ∃ x ∈ S, Lv names s x) (h2 : ∀ x ∈ S, ∃ s ∈ subR r2, Lv names s x) : FamIn r1 r2 := fun s hs => by
  obtain ⟨x, hx, e⟩ := h1 s hs
  obtain ⟨u, hu, f⟩ := h2 x hx
  exact ⟨u, hu, fun y => (e y).trans (f y).symm⟩
theorem SetsOk.same (hk : ShOk names l) (h : SetsOk names.length S) (hS : S.length ≤ 64) {r : RT} (hr : OkU r) (h1 : ∀ s ∈ subR r, ∃ x ∈ S, Lv names s x) (h2 : ∀ x ∈ S, ∃ s ∈ subR r, Lv names s x) : sortR (toR (setT names S)) = sortR r := by
  have ht := h.tree hk hS
  have a1 : ∀ s ∈ subR (toR (setT names S)), ∃ x ∈ S, Lv names s x := fun s hs => by
    rw [subR_toR ht] at hs
    obtain ⟨j, hj, rfl⟩ := List.mem_map.1 hs
    have := mem_nodes_lt ht hj
    rw [set_len] at this
    exact ⟨_, gl_mem this, h.leaves hk hS _ j (Nat.le_refl _) this⟩
  have a2 : ∀ x ∈ S, ∃ s ∈ subR (toR (setT names S)), Lv names s x := fun x hx => by
    obtain ⟨i, hi, rfl⟩ := gl_ex hx
    exact ⟨_, h.node hk hS i i (Nat.le_refl _) hi, h.leaves hk hS _ i (Nat.le_refl _) hi⟩
  exact uniq_sort _ _ _ (Nat.le_refl _) (h.oku hk hS) hr (fam_lv a1 h2) (fam_lv h1 a2)
end
end Go.Proofs.YtcbmbhghmfehpaaGreat
namespace Go.Proofs.YtcbmbhghmfehpaaGreat
/-- Node i of t stands for the set S i of names; the parent's set is the least one above. -/
structure NodeSets (names : List ByteArray) (t : Tre) (S : Nat → List Int) : Prop where
  nm : ∀ k, k < names.length → namedB (gs names k).data.toList = true
  nd : ∀ j k, j < k → k < names.length → gs names k ≠ gs names j
  n0 : 0 < t.ps.length
  n64 : t.ps.length ≤ 64
  len : t.ns.length = t.ps.length
  root : gi t.ps 0 = -1
  top : ∀ b : Nat, b < names.length → (b : Int) ∈ S 0
  bd : ∀ i, i < t.ps.length → (∀ x ∈ S i, 0 ≤ x ∧ x < (names.length : Int)) ∧ S i ≠ []
  par : ∀ i, 0 < i → i < t.ps.length → ∃ p, p < i ∧ gi t.ps i = (p : Int) ∧ (∀ x ∈ S i, x ∈ S p) ∧ ∀ j, j < t.ps.length → j ≠ i → (∀ x ∈ S i, x ∈ S j) → ∀ x ∈ S p, x ∈ S j
  inj : ∀ i j, i < t.ps.length → j < t.ps.length → (∀ x ∈ S i, x ∈ S j) → (∀ x ∈ S j, x ∈ S i) → i = j
  sing : ∀ b : Nat, b < names.length → ∃ i, i < t.ps.length ∧ S i = [(b : Int)]
  nms : ∀ i, i < t.ps.length → gs t.ns i = nmI names (S i)
  asc : ∀ i, i < t.ps.length → (S i).Nodup
section
variable {names : List ByteArray} {t : Tre} {S : Nat → List Int}
theorem NodeSets.kid_sub (h : NodeSets names t S) {i c : Nat} (hc : c < t.ps.length) (h0 : 0 < c) (e : gi t.ps c = (i : Int)) : (∀ x ∈ S c, x ∈ S i) ∧ i < c := by
  obtain ⟨p, p1, p2, p3, _⟩ := h.par c h0 hc
  rw [e] at p2
  have : i = p := by omega
  subst this; exact ⟨p3, p1⟩
theorem NodeSets.meet (h : NodeSets names t S) {i : Nat} (hi : i < t.ps.length) : ∃ x, x ∈ S i := List.exists_mem_of_ne_nil _ (h.bd i hi).2
theorem NodeSets.kid (h : NodeSets names t S) {i : Nat} (hi : i < t.ps.length) : ∀ (d p : Nat), p ≤ d → p < t.ps.length → p ≠ i → (∀ x ∈ S p, x ∈ S i) → ∃ c, c < t.ps.length ∧ i < c ∧ gi t.ps c = (i : Int) ∧ ∀ x ∈ S p, x ∈ S c := by
  have z : ∀ p, p < t.ps.length → p ≠ i → (∀ x ∈ S p, x ∈ S i) → 0 < p := fun p hp hne hs => by
    rcases Nat.eq_zero_or_pos p with e | e
    · subst e
      refine absurd (h.inj 0 i hp hi hs fun x hx => ?_) hne
      obtain ⟨x0, xn⟩ := (h.bd i hi).1 x hx
      have := h.top x.toNat (by omega)
      rwa [Int.toNat_of_nonneg x0] at this
    · exact e
  intro d
  induction d with
  | zero => intro p hd hp hne hs; have := z p hp hne hs; omega
  | succ d ih =>
    intro p hd hp hne hs
    obtain ⟨q, q1, q2, q3, q4⟩ := h.par p (z p hp hne hs) hp
    by_cases c : q = i
    · subst c; exact ⟨p, hp, q1, q2, fun x hx => hx⟩
    · obtain ⟨k, k1, k2, k3, k4⟩ := ih q (by omega) (by omega) c (q4 i hi (fun e => hne e.symm) hs)
      exact ⟨k, k1, k2, k3, fun x hx => k4 x (q3 x hx)⟩
theorem NodeSets.kid_of (h : NodeSets names t S) {i : Nat} (hi : i < t.ps.length) (h2 : (S i).length ≠ 1) {x : Int} (hx : x ∈ S i) : ∃ c, c < t.ps.length ∧ i < c ∧ gi t.ps c = (i : Int) ∧ x ∈ S c := by
  obtain ⟨x0, xn⟩ := (h.bd i hi).1 x hx
  obtain ⟨k, rfl⟩ : ∃ k : Nat, x = k := ⟨x.toNat, by omega⟩
  obtain ⟨p, hp, e⟩ := h.sing k (by omega)
  have hne : p ≠ i := fun q => by subst q; rw [e] at h2; exact h2 rfl
  obtain ⟨c, c1, c2, c3, c4⟩ := h.kid hi p p (Nat.le_refl _) hp hne (fun y hy => by rw [e, List.mem_singleton] at hy; subst hy; exact hx)
  exact ⟨c, c1, c2, c3, c4 _ (by rw [e]; simp)⟩
theorem NodeSets.inn (h : NodeSets names t S) {i : Nat} (hi : i < t.ps.length) : isIn t.ps i = true ↔ (S i).length ≠ 1 := by
  unfold isIn inK
  rw [List.any_eq_true]
  constructor
  · rintro ⟨c, hc, e⟩ h1
    have hc := List.mem_range.1 hc
    rw [Bool.and_eq_true, decide_eq_true_eq, beq_iff_eq] at e
    obtain ⟨s1, s2⟩ := h.kid_sub hc e.1 e.2
    obtain ⟨b, hb⟩ := List.length_eq_one_iff.1 h1
    obtain ⟨z, hz⟩ := h.meet hc
    have hzb := s1 z hz
    rw [hb, List.mem_singleton] at hzb
    have := h.inj i c hi hc (fun x hx => by rw [hb, List.mem_singleton] at hx; rw [hx, ← hzb]; exact hz) s1
    omega
  · intro h1
    obtain ⟨x, hx⟩ := h.meet hi
    obtain ⟨c, c1, c2, c3, _⟩ := h.kid_of hi h1 hx
    exact ⟨c, List.mem_range.2 c1, by rw [c3]; simp; omega⟩
theorem NodeSets.one (h : NodeSets names t S) {i : Nat} (hi : i < t.ps.length) (h1 : (S i).length = 1) : ∃ b : Nat, b < names.length ∧ S i = [(b : Int)] ∧ gs t.ns i = gs names b := by
  obtain ⟨x, hx⟩ := List.length_eq_one_iff.1 h1
  obtain ⟨x0, xn⟩ := (h.bd i hi).1 x (by rw [hx]; simp)
  refine ⟨x.toNat, by omega, by rw [hx]; congr 1; omega, ?_⟩
  rw [h.nms i hi, nmI, if_pos h1, hx]; rfl
theorem NodeSets.big (h : NodeSets names t S) {i : Nat} (hi : i < t.ps.length) (h1 : (S i).length ≠ 1) : (gs t.ns i).size = 0 := by
  rw [h.nms i hi, nmI, if_neg h1]; rfl
theorem NodeSets.pok (h : NodeSets names t S) : pOkB t.ps = true := by
  unfold pOkB
  rw [List.all_eq_true]
  intro i hi
  have hi := List.mem_range.1 hi
  unfold okp
  by_cases c : i = 0
  · subst c; rw [h.root]; rfl
  · rw [if_neg c]
    obtain ⟨p, h1, h2, _⟩ := h.par i (by omega) hi
    rw [h2]; simp; omega
theorem NodeSets.tree (h : NodeSets names t S) : treeErr t = 0 := by
  have hp := h.n0
  have h64 := h.n64
  unfold treeErr
  rw [if_neg (by omega), if_neg (by omega), if_neg (by rw [h.len]; simp), if_pos h.pok]
  refine firstNZ_zero fun i hi => ?_
  unfold nErr
  by_cases h1 : (S i).length = 1
  · rw [if_neg (fun q => (h.inn hi).1 q h1)]
    obtain ⟨b, hb, e, en⟩ := h.one hi h1
    have hn := h.nm b hb
    rw [en, if_pos hn, if_neg]
    intro q
    unfold seenK at q
    obtain ⟨j, hj, e2⟩ := List.any_eq_true.1 q
    have hj := List.mem_range.1 hj
    have e2 := of_decide_eq_true e2
    rw [en] at e2
    by_cases j1 : (S j).length = 1
    · obtain ⟨b', hb', e', en'⟩ := h.one (show j < t.ps.length by omega) j1
      rw [en'] at e2
      have : b' = b := by
        rcases Nat.lt_trichotomy b' b with c | c | c
        · exact absurd e2.symm (h.nd b' b c hb)
        · exact c
        · exact absurd e2 (h.nd b b' c hb')
      subst this
      have := h.inj j i (by omega) hi (by rw [e', e]; exact fun x hx => hx) (by rw [e', e]; exact fun x hx => hx)
      omega
    · have := h.big (show j < t.ps.length by omega) j1
      rw [e2] at this
      exact named_size hn this
  · rw [if_pos ((h.inn hi).2 h1), if_pos (h.big hi h1)]
theorem NodeSets.nokid (h : NodeSets names t S) {i : Nat} (hi : i < t.ps.length) (h1 : (S i).length = 1) : kidsL t.ps i = [] := by
  rw [List.eq_nil_iff_forall_not_mem]
  intro c hc
  obtain ⟨c1, c2, c3⟩ := mem_kidsL.1 hc
  refine (h.inn hi).1 ?_ h1
  unfold isIn inK
  rw [List.any_eq_true]
  exact ⟨c, List.mem_range.2 c1, by rw [c3]; simp; omega⟩
theorem NodeSets.leaves (h : NodeSets names t S) : ∀ d i, t.ps.length - i ≤ d → i < t.ps.length → Lv names (toRF (frT t) (rkT t) i) (S i)
  | 0, i, hd, hi => by omega
  | d + 1, i, hd, hi => by
    have ht := h.tree
    intro y
    rw [toRF_eq (frT_arb ht).wf hi, frT_kids, show (frT t).nm i = gs t.ns i from rfl]
    by_cases h1 : (S i).length = 1
    · obtain ⟨b, hb, e, en⟩ := h.one hi h1
      rw [h.nokid hi h1, List.map_nil, en, leafR_leaf (named_size (h.nm b hb)), e]
      constructor
      · intro hy; exact ⟨b, by simp, by simpa using hy⟩
      · rintro ⟨b', hb', rfl⟩
        have : b' = b := by have := List.mem_singleton.1 hb'; omega
        subst this; simp
    · rw [leafR_node (h.big hi h1), List.mem_flatMap]
      constructor
      · rintro ⟨q, hq, hy⟩
        obtain ⟨c, hc, rfl⟩ := List.mem_map.1 hq
        obtain ⟨c1, c2, c3⟩ := mem_kidsL.1 hc
        obtain ⟨b, hb, e⟩ := (NodeSets.leaves h d c (by omega) c1 y).1 hy
        exact ⟨b, (h.kid_sub c1 (by omega) c3).1 _ hb, e⟩
      · rintro ⟨b, hb, rfl⟩
        obtain ⟨c, c1, c2, c3, c4⟩ := h.kid_of hi h1 hb
        exact ⟨_, List.mem_map.2 ⟨c, mem_kidsL.2 ⟨c1, c2, c3⟩, rfl⟩, (NodeSets.leaves h d c (by omega) c1 _).2 ⟨b, c4, rfl⟩⟩
theorem NodeSets.part (h : NodeSets names t S) {i : Nat} (hi : i < t.ps.length) : PartOk (toRF (frT t) (rkT t) i) := by
  have ht := h.tree
  unfold PartOk
  rw [toRF_nm (frT_arb ht).wf hi, toRF_kids (frT_arb ht).wf hi, frT_kids, show (frT t).nm i = gs t.ns i from rfl]
  by_cases h1 : (S i).length = 1
  · obtain ⟨b, hb, e, en⟩ := h.one hi h1
    rw [h.nokid hi h1, en]
    exact ⟨fun q => absurd rfl q, fun _ => h.nm b hb, by simp⟩
  · have hof : ∀ x ∈ S i, ∃ c ∈ kidsL t.ps i, x ∈ S c := fun x hx => by
      obtain ⟨c, c1, c2, c3, c4⟩ := h.kid_of hi h1 hx
      exact ⟨c, mem_kidsL.2 ⟨c1, c2, c3⟩, c4⟩
    refine ⟨fun _ => h.big hi h1, fun q => ?_, fun q => ?_⟩
    · have q : kidsL t.ps i = [] := by simpa using q
      obtain ⟨x, hx⟩ := h.meet hi
      obtain ⟨c, hc, _⟩ := hof x hx
      rw [q] at hc; cases hc
    · rw [List.length_map] at q
      obtain ⟨c, hc⟩ := List.length_eq_one_iff.1 q
      obtain ⟨c1, c2, c3⟩ := mem_kidsL.1 (show c ∈ kidsL t.ps i by rw [hc]; simp)
      have := h.inj i c hi c1 (fun x hx => by
        obtain ⟨c', hc', hx'⟩ := hof x hx
        rw [hc, List.mem_singleton] at hc'
        subst hc'; exact hx') (h.kid_sub c1 (by omega) c3).1
      omega
theorem NodeSets.oku (h : NodeSets names t S) : OkU (toR t) := by
  have ht := h.tree
  refine ⟨(good_toR ht).nd, fun s hs => ?_⟩
  rw [subR_toR ht] at hs
  obtain ⟨j, hj, rfl⟩ := List.mem_map.1 hs
  exact h.part (mem_nodes_lt ht hj)
theorem NodeSets.node (h : NodeSets names t S) : ∀ (d i : Nat), i ≤ d → i < t.ps.length → toRF (frT t) (rkT t) i ∈ subR (toR t)
  | d, i, hd, hi => by
    have ht := h.tree
    by_cases h0 : i = 0
    · subst h0; exact subR_self _
    · obtain ⟨p, p1, p2, _⟩ := h.par i (by omega) hi
      cases d with
      | zero => omega
      | succ d =>
        have ih := NodeSets.node h d p (by omega) (by omega)
        refine subR_trans _ ih ?_
        rw [toRF_eq (frT_arb ht).wf (show p < t.ps.length by omega), frT_kids]
        exact mem_kid (List.mem_map.2 ⟨i, mem_kidsL.2 ⟨hi, p1, p2⟩, rfl⟩)
/-- Each part stands for a node's set, and each node has a part. -/
theorem NodeSets.parts (h : NodeSets names t S) : (∀ s ∈ subR (toR t), ∃ i, i < t.ps.length ∧ Lv names s (S i)) ∧ ∀ i, i < t.ps.length → ∃ s ∈ subR (toR t), Lv names s (S i) := by
  have ht := h.tree
  constructor
  · intro s hs
    rw [subR_toR ht] at hs
    obtain ⟨j, hj, rfl⟩ := List.mem_map.1 hs
    have := mem_nodes_lt ht hj
    exact ⟨j, this, h.leaves _ j (Nat.le_refl _) this⟩
  · exact fun i hi => ⟨_, h.node i i (Nat.le_refl _) hi, h.leaves _ i (Nat.le_refl _) hi⟩
end
end Go.Proofs.YtcbmbhghmfehpaaGreat
namespace Go.Proofs.YtcbmbhghmfehpaaGreat
section
variable {F G : Frs} {n : Nat} {rk : Nat → Nat}
theorem kids_nil0 (h : Wf F n rk) {i : Nat} (hi : i < n) (h0 : rk i ≤ 0) : F.kids i = [] := by
  cases hk : F.kids i with
  | nil => rfl
  | cons k l => have := (h.kid i hi k (by rw [hk]; simp)).2; omega
theorem sub_trans (h : Wf F n rk) : ∀ {d i j z : Nat}, i < n → rk i ≤ d → subF F rk i j = true → subF F rk j z = true → subF F rk i z = true := by
  intro d
  induction d with
  | zero =>
    intro i j z hi hd h1 h2
    rw [subF_eq h hi, kids_nil0 h hi hd] at h1
    have : j = i := by simpa using h1
    subst this; exact h2
  | succ d ih =>
    intro i j z hi hd h1 h2
    rcases subF_cases h hi h1 with e | ⟨k, hk, h3⟩
    · subst e; exact h2
    · have hkk := h.kid i hi k hk
      exact subF_kid h hi hk (ih hkk.1 (by omega) h3 h2)
theorem sub_cong (hF : Wf F n rk) (hG : Wf G n rk) : ∀ {d c : Nat}, c < n → rk c ≤ d → (∀ z, subF F rk c z = true → G.kids z = F.kids z) → ∀ z, subF G rk c z = subF F rk c z := by
  intro d
  induction d with
  | zero =>
    intro c hc hd hz z
    rw [subF_eq hF hc, subF_eq hG hc, kids_nil0 hF hc hd, kids_nil0 hG hc hd]; rfl
  | succ d ih =>
    intro c hc hd hz z
    rw [subF_eq hF hc, subF_eq hG hc, hz c (subF_self hF hc)]
    congr 1
    rw [Bool.eq_iff_iff, List.any_eq_true, List.any_eq_true]
    have key : ∀ k ∈ F.kids c, subF G rk k z = subF F rk k z := fun k hk => by
      have hkk := hF.kid c hc k hk
      exact ih hkk.1 (by omega) (fun y hy => hz y (subF_kid hF hc hk hy)) z
    constructor
    · rintro ⟨k, hk, e⟩; exact ⟨k, hk, by rw [← key k hk]; exact e⟩
    · rintro ⟨k, hk, e⟩; exact ⟨k, hk, by rw [key k hk]; exact e⟩
/-- Does i stay, if the leaves of P do? -/
def alD (F : Frs) (P : Nat → Bool) : Nat → Nat → Bool
  | 0, i => P i
  | d + 1, i => if F.kids i = [] then P i else (F.kids i).any (alD F P d)
def al (F : Frs) (P : Nat → Bool) (rk : Nat → Nat) (i : Nat) : Bool := alD F P (rk i) i
theorem any_congr {α : Type} {f g : α → Bool} : ∀ {l : List α}, (∀ k ∈ l, f k = g k) → l.any f = l.any g
  | [], _ => rfl
  | a :: l, h => by rw [List.any_cons, List.any_cons, h a (by simp), any_congr fun k hk => h k (by simp [hk])]
theorem alD_fuel {P : Nat → Bool} (h : Wf F n rk) : ∀ {d e i : Nat}, i < n → rk i ≤ d → rk i ≤ e → alD F P d i = alD F P e i := by
  intro d
  induction d with
  | zero =>
    intro e i hi hd he
    cases e with
    | zero => rfl
    | succ e => simp [alD, kids_nil0 h hi hd]
  | succ d ih =>
    intro e i hi hd he
    cases e with
    | zero => simp [alD, kids_nil0 h hi he]
    | succ e =>
      simp only [alD]
      split
      · rfl
      · exact any_congr fun k hk => by
          have := h.kid i hi k hk
          exact ih this.1 (by omega) (by omega)
theorem al_eq {P : Nat → Bool} (h : Wf F n rk) {i : Nat} (hi : i < n) : al F P rk i = if F.kids i = [] then P i else (F.kids i).any (al F P rk) := by
  have h1 : al F P rk i = alD F P (rk i + 1) i := alD_fuel h hi (Nat.le_refl _) (Nat.le_succ _)
  rw [h1]
  simp only [alD]
  split
  · rfl
  · exact any_congr fun k hk => by
      have := h.kid i hi k hk
      exact alD_fuel h this.1 (by omega) (Nat.le_refl _)
theorem al_cong {P : Nat → Bool} (hF : Wf F n rk) (hG : Wf G n rk) : ∀ {d c : Nat}, c < n → rk c ≤ d → (∀ z, subF F rk c z = true → G.kids z = F.kids z) → al G P rk c = al F P rk c := by
  intro d
  induction d with
  | zero =>
    intro c hc hd hz
    rw [al_eq hF hc, al_eq hG hc, kids_nil0 hF hc hd, kids_nil0 hG hc hd]; rfl
  | succ d ih =>
    intro c hc hd hz
    rw [al_eq hF hc, al_eq hG hc, hz c (subF_self hF hc)]
    split
    · rfl
    · exact any_congr fun k hk => by
        have hkk := hF.kid c hc k hk
        exact ih hkk.1 (by omega) fun y hy => hz y (subF_kid hF hc hk hy)
/-- Below i: no child stands twice, and nothing lies below two children. -/
def Dis (F : Frs) (n : Nat) (rk : Nat → Nat) (i : Nat) : Prop :=
  ∀ z, z < n → subF F rk i z = true → (F.kids z).Nodup ∧ ∀ x ∈ F.kids z, ∀ y ∈ F.kids z, ∀ j, subF F rk x j = true → subF F rk y j = true → x = y
theorem Dis.kid (h : Wf F n rk) {i k : Nat} (hi : i < n) (hk : k ∈ F.kids i) (hD : Dis F n rk i) : Dis F n rk k := fun z hz hs => hD z hz (subF_kid h hi hk hs)
/-- The nodes below i get the lists of q. -/
def Frs.sub (F : Frs) (rk : Nat → Nat) (q : Nat → List Nat) (i : Nat) : Frs := ⟨F.nm, F.old, fun z => if subF F rk i z then q z else F.kids z⟩
/-- The nodes below the first k of L get the lists of q. -/
def Frs.upto (F : Frs) (rk : Nat → Nat) (q : Nat → List Nat) (L : List Nat) (k : Nat) : Frs := ⟨F.nm, F.old, fun z => if (L.take k).any (fun c => subF F rk c z) then q z else F.kids z⟩
/-- Below the next child nothing has changed. -/
theorem upto_fresh (h : Wf F n rk) {q : Nat → List Nat} {y k c : Nat} (hy : y < n) (hD : Dis F n rk y) (hc : (F.kids y)[k]? = some c) : ∀ z, subF F rk c z = true → (F.upto rk q (F.kids y) k).kids z = F.kids z := fun z hs => by
  show (if _ then _ else _) = _
  rw [if_neg]
  intro e
  obtain ⟨b, hb, e⟩ := List.any_eq_true.1 e
  obtain ⟨h1, h2⟩ := hD y hy (subF_self h hy)
  obtain ⟨j, hj, ej⟩ := List.getElem_of_mem hb
  rw [List.getElem_take] at ej
  have hjk : j < k := by rw [List.length_take] at hj; omega
  obtain ⟨hkl, ek⟩ := List.getElem?_eq_some_iff.1 hc
  have := h2 b (List.mem_of_mem_take hb) c (by rw [← ek]; exact List.getElem_mem hkl) z e hs
  rw [← ej, ← ek] at this
  have := (List.getElem_inj h1).1 this
  omega
theorem upto_succ {q : Nat → List Nat} {L : List Nat} {k c : Nat} (hc : L[k]? = some c) (z : Nat) : (F.upto rk q L (k + 1)).kids z = if subF F rk c z then q z else (F.upto rk q L k).kids z := by
  show (if _ then _ else _) = if _ then _ else (if _ then _ else _)
  rw [List.take_add_one, hc, List.any_append]
  simp only [Option.toList, List.any_cons, List.any_nil, Bool.or_false]
  cases (L.take k).any (fun c => subF F rk c z) <;> cases subF F rk c z <;> rfl
theorem upto_all (h : Wf F n rk) {q : Nat → List Nat} {y z : Nat} (hy : y < n) (hz : z ≠ y) : (F.upto rk q (F.kids y) (F.kids y).length).kids z = (F.sub rk q y).kids z := by
  show (if _ then _ else _) = if _ then _ else _
  rw [List.take_length, subF_eq h hy, show (z == y) = false from beq_eq_false_iff_ne.2 hz, Bool.false_or]
end
end Go.Proofs.YtcbmbhghmfehpaaGreat
