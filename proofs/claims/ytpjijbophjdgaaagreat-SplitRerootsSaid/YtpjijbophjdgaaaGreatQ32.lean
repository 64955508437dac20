/- Lists of splits: ordered, each once. Plain. Trees whose nodes stand for nested sets of names: valid, without one-child nodes; their parts. Plain. -/
import Derived.Test.YtpjijbophjdgaaaGreatQ31
import Derived.Test.YtpjijbophjdgaaaGreatQ18
namespace Go.Proofs.YtpjijbophjdgaaaGreat
def cmpL : List Int → List Int → Int
  | [], [] => 0
  | [], _ :: _ => -1
  | _ :: _, [] => 1
  | a :: a1, b :: bs => if a < b then -1 else if b < a then 1 else cmpL a1 bs
theorem cmpL_self : ∀ a : List Int, cmpL a a = 0
  | [] => rfl
  | a :: a1 => by rw [cmpL, if_neg (by omega), if_neg (by omega)]; exact cmpL_self a1
theorem cmpL_zero : ∀ {a b : List Int}, cmpL a b = 0 → a = b
  | [], [], _ => rfl
  | [], _ :: _, h => by rw [cmpL] at h; omega
  | _ :: _, [], h => by rw [cmpL] at h; omega
  | a :: a1, b :: bs, h => by
    rw [cmpL] at h
    split at h
    · omega
    · split at h
      · omega
      · rw [cmpL_zero h]; congr 1; omega
theorem cmpL_anti : ∀ a b : List Int, cmpL b a = - cmpL a b
  | [], [] => rfl
  | [], _ :: _ => rfl
  | _ :: _, [] => rfl
  | a :: a1, b :: bs => by
    rw [cmpL, cmpL]
    by_cases h1 : a < b
    · simp only [if_pos h1, if_neg (show ¬ b < a by omega)]; rfl
    · by_cases h2 : b < a
      · simp only [if_pos h2, if_neg h1]
      · rw [if_neg h1, if_neg h2, if_neg h2, if_neg h1]; exact cmpL_anti a1 bs
theorem cmpL_trans : ∀ {a b c : List Int}, cmpL a b < 0 → cmpL b c < 0 → cmpL a c < 0
  | [], [], c, h, _ => by rw [cmpL] at h; omega
  | [], _ :: _, [], _, h => by rw [cmpL] at h; omega
  | [], _ :: _, _ :: _, _, _ => by rw [cmpL]; omega
  | _ :: _, [], _, h, _ => by rw [cmpL] at h; omega
  | _ :: _, _ :: _, [], _, h => by rw [cmpL] at h; omega
  | a :: a1, b :: bs, c :: cs, h1, h2 => by
    rw [cmpL] at h1 h2 ⊢
    by_cases x1 : a < b
    · by_cases y1 : b < c
      · rw [if_pos (by omega)]; omega
      · rw [if_neg y1] at h2
        by_cases y2 : c < b
        · rw [if_pos y2] at h2; omega
        · rw [if_pos (by omega)]; omega
    · rw [if_neg x1] at h1
      by_cases x2 : b < a
      · rw [if_pos x2] at h1; omega
      · rw [if_neg x2] at h1
        by_cases y1 : b < c
        · rw [if_pos (by omega)]; omega
        · rw [if_neg y1] at h2
          by_cases y2 : c < b
          · rw [if_pos y2] at h2; omega
          · rw [if_neg y2] at h2
            rw [if_neg (by omega), if_neg (by omega)]
            exact cmpL_trans h1 h2
def ltX (a b : List Int) : Prop := cmpL a b < 0
def leX (a b : List Int) : Prop := cmpL a b ≤ 0
theorem leX_trans {a b c : List Int} (h1 : leX a b) (h2 : leX b c) : leX a c := by
  unfold leX at *
  by_cases e1 : cmpL a b = 0
  · rw [cmpL_zero e1]; exact h2
  · by_cases e2 : cmpL b c = 0
    · rw [← cmpL_zero e2]; exact h1
    · have h3 : cmpL a b < 0 := by omega
      have h4 : cmpL b c < 0 := by omega
      exact Int.le_of_lt (cmpL_trans h3 h4)
def insX (a : List Int) : List (List Int) → List (List Int)
  | [] => [a]
  | b :: l => if cmpL a b ≤ 0 then a :: b :: l else b :: insX a l
def sortX : List (List Int) → List (List Int)
  | [] => []
  | a :: l => insX a (sortX l)
theorem insX_perm (a : List Int) : ∀ l : List (List Int), (insX a l).Perm (a :: l)
  | [] => List.Perm.refl _
  | b :: l => by
    rw [insX]
    split
    · exact List.Perm.refl _
    · exact (List.Perm.cons b (insX_perm a l)).trans (List.Perm.swap a b l)
theorem sortX_perm : ∀ l : List (List Int), (sortX l).Perm l
  | [] => List.Perm.refl _
  | a :: l => (insX_perm a _).trans (List.Perm.cons a (sortX_perm l))
theorem insX_sorted (a : List Int) : ∀ {l : List (List Int)}, l.Pairwise leX → (insX a l).Pairwise leX
  | [], _ => by simp [insX]
  | b :: l, h => by
    rw [insX]
    rw [List.pairwise_cons] at h
    split
    · rename_i h1
      refine List.pairwise_cons.2 ⟨fun c hc => ?_, List.pairwise_cons.2 h⟩
      rcases List.mem_cons.1 hc with rfl | hc
      · exact h1
      · exact leX_trans h1 (h.1 c hc)
    · rename_i h1
      refine List.pairwise_cons.2 ⟨fun c hc => ?_, insX_sorted a h.2⟩
      rcases List.mem_cons.1 ((insX_perm a l).mem_iff.1 hc) with rfl | hc
      · unfold leX; have := cmpL_anti c b; omega
      · exact h.1 c hc
theorem sortX_sorted : ∀ l : List (List Int), (sortX l).Pairwise leX
  | [] => List.Pairwise.nil
  | a :: l => insX_sorted a (sortX_sorted l)
theorem sortX_uniq {a b : List (List Int)} (hp : a.Perm b) (h : a.Pairwise leX) : a = sortX b :=
  List.Perm.eq_of_pairwise (le := leX) (fun x y _ _ h1 h2 => cmpL_zero (by unfold leX at h1 h2; have := cmpL_anti x y; omega)) h (sortX_sorted b) (hp.trans (sortX_perm b).symm)
def cptX : List (List Int) → List (List Int)
  | [] => []
  | a :: l => if l.head? = some a then cptX l else a :: cptX l
theorem mem_cptX {x : List Int} : ∀ {l : List (List Int)}, x ∈ cptX l ↔ x ∈ l
  | [] => by rw [cptX]
  | a :: l => by
    rw [cptX]
    split
    · rename_i h
      rw [mem_cptX, List.mem_cons]
      constructor
      · exact .inr
      · rintro (rfl | h1)
        · exact List.mem_of_head? h
        · exact h1
    · rw [List.mem_cons, List.mem_cons, mem_cptX]
theorem cptX_strict : ∀ {l : List (List Int)}, l.Pairwise leX → (cptX l).Pairwise ltX
  | [], _ => List.Pairwise.nil
  | a :: l, h => by
    rw [List.pairwise_cons] at h
    rw [cptX]
    split
    · exact cptX_strict h.2
    · rename_i hne
      refine List.pairwise_cons.2 ⟨fun c hc => ?_, cptX_strict h.2⟩
      have hc := mem_cptX.1 hc
      have h1 := h.1 c hc
      unfold ltX
      unfold leX at h1
      by_cases e : cmpL a c = 0
      · exfalso
        have e := cmpL_zero e
        subst e
        cases l with
        | nil => cases hc
        | cons b l =>
          rw [List.head?_cons] at hne
          have h2 := h.1 b (by simp)
          rcases List.mem_cons.1 hc with rfl | hc
          · exact hne rfl
          · have h3 := (List.pairwise_cons.1 h.2).1 _ hc
            unfold leX at h2 h3
            have := cmpL_anti a b
            exact hne (by rw [cmpL_zero (a := a) (b := b) (by omega)])
      · omega
theorem ltX_ext {a b : List (List Int)} (ha : a.Pairwise ltX) (hb : b.Pairwise ltX) (h : ∀ x, x ∈ a ↔ x ∈ b) : a = b := by
  have nd : ∀ {q : List (List Int)}, q.Pairwise ltX → q.Nodup := fun hq => hq.imp fun {x y} h1 e => by subst e; unfold ltX at h1; rw [cmpL_self] at h1; omega
  have hp : a.Perm b := (List.perm_ext_iff_of_nodup (nd ha) (nd hb)).2 h
  exact List.Perm.eq_of_pairwise (le := ltX) (fun x y _ _ h1 h2 => by unfold ltX at h1 h2; have := cmpL_anti x y; omega) ha hb hp
def ordX (l : List (List Int)) : List (List Int) := cptX (sortX l)
theorem mem_ordX {x : List Int} {l : List (List Int)} : x ∈ ordX l ↔ x ∈ l := by unfold ordX; rw [mem_cptX]; exact (sortX_perm l).mem_iff
theorem ordX_strict (l : List (List Int)) : (ordX l).Pairwise ltX := cptX_strict (sortX_sorted l)
theorem ordX_congr {a b : List (List Int)} (h : ∀ x, x ∈ a ↔ x ∈ b) : ordX a = ordX b := ltX_ext (ordX_strict a) (ordX_strict b) fun x => by rw [mem_ordX, mem_ordX]; exact h x
end Go.Proofs.YtpjijbophjdgaaaGreat
namespace Go.Proofs.YtpjijbophjdgaaaGreat
structure NodeSets (names : List ByteArray) (t : Tre) (S : Nat → List Int) : Prop where
  nm : ∀ k, k < names.length → namedB (gs names k).data.toList = true
  nd : ∀ j k, j < k → k < names.length → gs names k ≠ gs names j
  n0 : 0 < t.ps.length
  n64 : t.ps.length ≤ 64
  len : t.ns.length = t.ps.length
  root : gi t.ps 0 = -1
  top : ∀ b : Nat, b < names.length → (b : Int) ∈ S 0
  bd : ∀ i, i < t.ps.length → (∀ x ∈ S i, 0 ≤ x ∧ x < (names.length : Int)) ∧ S i ≠ []
  par : ∀ i, 0 < i → i < t.ps.length → ∃ p, p < i ∧ gi t.ps i = (p : Int) ∧ (∀ x ∈ S i, x ∈ S p) ∧ ∀ j, j < t.ps.length → j ≠ i → (∀ x ∈ S i, x ∈ S j) → ∀ x ∈ S p, x ∈ S j
  inj : ∀ i j, i < t.ps.length → j < t.ps.length → (∀ x ∈ S i, x ∈ S j) → (∀ x ∈ S j, x ∈ S i) → i = j
  sing : ∀ b : Nat, b < names.length → ∃ i, i < t.ps.length ∧ S i = [(b : Int)]
  nms : ∀ i, i < t.ps.length → gs t.ns i = nmI names (S i)
  asc : ∀ i, i < t.ps.length → (S i).Nodup
section
variable {names : List ByteArray} {t : Tre} {S : Nat → List Int}
theorem NodeSets.kid_sub (h : NodeSets names t S) {i c : Nat} (hc : c < t.ps.length) (h0 : 0 < c) (e : gi t.ps c = (i : Int)) : (∀ x ∈ S c, x ∈ S i) ∧ i < c := by
  obtain ⟨p, p1, p2, p3, _⟩ := h.par c h0 hc
  rw [e] at p2
  have : i = p := by omega
  subst this; exact ⟨p3, p1⟩
theorem NodeSets.meet (h : NodeSets names t S) {i : Nat} (hi : i < t.ps.length) : ∃ x, x ∈ S i := List.exists_mem_of_ne_nil _ (h.bd i hi).2
theorem NodeSets.kid (h : NodeSets names t S) {i : Nat} (hi : i < t.ps.length) : ∀ (d p : Nat), p ≤ d → p < t.ps.length → p ≠ i → (∀ x ∈ S p, x ∈ S i) → ∃ c, c < t.ps.length ∧ i < c ∧ gi t.ps c = (i : Int) ∧ ∀ x ∈ S p, x ∈ S c := by
  have z : ∀ p, p < t.ps.length → p ≠ i → (∀ x ∈ S p, x ∈ S i) → 0 < p := fun p hp hne hs => by
    rcases Nat.eq_zero_or_pos p with e | e
    · subst e
      refine absurd (h.inj 0 i hp hi hs fun x hx => ?_) hne
      obtain ⟨x0, xn⟩ := (h.bd i hi).1 x hx
      have := h.top x.toNat (by omega)
      rwa [Int.toNat_of_nonneg x0] at this
    · exact e
  intro d
  induction d with
  | zero => intro p hd hp hne hs; have := z p hp hne hs; omega
  | succ d ih =>
    intro p hd hp hne hs
    obtain ⟨q, q1, q2, q3, q4⟩ := h.par p (z p hp hne hs) hp
    by_cases c : q = i
    · subst c; exact ⟨p, hp, q1, q2, fun x hx => hx⟩
    · obtain ⟨k, k1, k2, k3, k4⟩ := ih q (by omega) (by omega) c (q4 i hi (fun e => hne e.symm) hs)
      exact ⟨k, k1, k2, k3, fun x hx => k4 x (q3 x hx)⟩
theorem NodeSets.kid_of (h : NodeSets names t S) {i : Nat} (hi : i < t.ps.length) (h2 : (S i).length ≠ 1) {x : Int} (hx : x ∈ S i) : ∃ c, c < t.ps.length ∧ i < c ∧ gi t.ps c = (i : Int) ∧ x ∈ S c := by
  obtain ⟨x0, xn⟩ := (h.bd i hi).1 x hx
  obtain ⟨k, rfl⟩ : ∃ k : Nat, x = k := ⟨x.toNat, by omega⟩
  obtain ⟨p, hp, e⟩ := h.sing k (by omega)
  have hne : p ≠ i := fun q => by subst q; rw [e] at h2; exact h2 rfl
  obtain ⟨c, c1, c2, c3, c4⟩ := h.kid hi p p (Nat.le_refl _) hp hne (fun y hy => by rw [e, List.mem_singleton] at hy; subst hy; exact hx)
  exact ⟨c, c1, c2, c3, c4 _ (by rw [e]; simp)⟩
theorem NodeSets.inn (h : NodeSets names t S) {i : Nat} (hi : i < t.ps.length) : isIn t.ps i = true ↔ (S i).length ≠ 1 := by
  unfold isIn inK
  rw [List.any_eq_true]
  constructor
  · rintro ⟨c, hc, e⟩ h1
    have hc := List.mem_range.1 hc
    rw [Bool.and_eq_true, decide_eq_true_eq, beq_iff_eq] at e
    obtain ⟨s1, s2⟩ := h.kid_sub hc e.1 e.2
    obtain ⟨b, hb⟩ := List.length_eq_one_iff.1 h1
    obtain ⟨z, hz⟩ := h.meet hc
    have hzb := s1 z hz
    rw [hb, List.mem_singleton] at hzb
    have := h.inj i c hi hc (fun x hx => by rw [hb, List.mem_singleton] at hx; rw [hx, ← hzb]; exact hz) s1
    omega
  · intro h1
    obtain ⟨x, hx⟩ := h.meet hi
    obtain ⟨c, c1, c2, c3, _⟩ := h.kid_of hi h1 hx
    exact ⟨c, List.mem_range.2 c1, by rw [c3]; simp; omega⟩
theorem NodeSets.one (h : NodeSets names t S) {i : Nat} (hi : i < t.ps.length) (h1 : (S i).length = 1) : ∃ b : Nat, b < names.length ∧ S i = [(b : Int)] ∧ gs t.ns i = gs names b := by
  obtain ⟨x, hx⟩ := List.length_eq_one_iff.1 h1
  obtain ⟨x0, xn⟩ := (h.bd i hi).1 x (by rw [hx]; simp)
  refine ⟨x.toNat, by omega, by rw [hx]; congr 1; omega, ?_⟩
  rw [h.nms i hi, nmI, if_pos h1, hx]; rfl
theorem NodeSets.big (h : NodeSets names t S) {i : Nat} (hi : i < t.ps.length) (h1 : (S i).length ≠ 1) : (gs t.ns i).size = 0 := by
  rw [h.nms i hi, nmI, if_neg h1]; rfl
theorem NodeSets.pok (h : NodeSets names t S) : pOkB t.ps = true := by
  unfold pOkB
  rw [List.all_eq_true]
  intro i hi
  have hi := List.mem_range.1 hi
  unfold okp
  by_cases c : i = 0
  · subst c; rw [h.root]; rfl
  · rw [if_neg c]
    obtain ⟨p, h1, h2, _⟩ := h.par i (by omega) hi
    rw [h2]; simp; omega
theorem NodeSets.tree (h : NodeSets names t S) : treeErr t = 0 := by
  have hp := h.n0
  have h64 := h.n64
  unfold treeErr
  rw [if_neg (by omega), if_neg (by omega), if_neg (by rw [h.len]; simp), if_pos h.pok]
  refine firstNZ_zero fun i hi => ?_
  unfold nErr
  by_cases h1 : (S i).length = 1
  · rw [if_neg (fun q => (h.inn hi).1 q h1)]
    obtain ⟨b, hb, e, en⟩ := h.one hi h1
    have hn := h.nm b hb
    rw [en, if_pos hn, if_neg]
    intro q
    unfold seenK at q
    obtain ⟨j, hj, e2⟩ := List.any_eq_true.1 q
    have hj := List.mem_range.1 hj
    have e2 := of_decide_eq_true e2
    rw [en] at e2
    by_cases j1 : (S j).length = 1
    · obtain ⟨b', hb', e', en'⟩ := h.one (show j < t.ps.length by omega) j1
      rw [en'] at e2
      have : b' = b := by
        rcases Nat.lt_trichotomy b' b with c | c | c
        · exact absurd e2.symm (h.nd b' b c hb)
        · exact c
        · exact absurd e2 (h.nd b b' c hb')
      subst this
      have := h.inj j i (by omega) hi (by rw [e', e]; exact fun x hx => hx) (by rw [e', e]; exact fun x hx => hx)
      omega
    · have := h.big (show j < t.ps.length by omega) j1
      rw [e2] at this
      exact named_size hn this
  · rw [if_pos ((h.inn hi).2 h1), if_pos (h.big hi h1)]
theorem NodeSets.nokid (h : NodeSets names t S) {i : Nat} (hi : i < t.ps.length) (h1 : (S i).length = 1) : kidsL t.ps i = [] := by
  rw [List.eq_nil_iff_forall_not_mem]
  intro c hc
  obtain ⟨c1, c2, c3⟩ := mem_kidsL.1 hc
  refine (h.inn hi).1 ?_ h1
  unfold isIn inK
  rw [List.any_eq_true]
  exact ⟨c, List.mem_range.2 c1, by rw [c3]; simp; omega⟩
theorem NodeSets.leaves (h : NodeSets names t S) : ∀ d i, t.ps.length - i ≤ d → i < t.ps.length → Lv names (toRF (frT t) (rkT t) i) (S i)
  | 0, i, hd, hi => by omega
  | d + 1, i, hd, hi => by
    have ht := h.tree
    intro y
    rw [toRF_eq (frT_arb ht).wf hi, frT_kids, show (frT t).nm i = gs t.ns i from rfl]
    by_cases h1 : (S i).length = 1
    · obtain ⟨b, hb, e, en⟩ := h.one hi h1
      rw [h.nokid hi h1, List.map_nil, en, leafR_leaf (named_size (h.nm b hb)), e]
      constructor
      · intro hy; exact ⟨b, by simp, by simpa using hy⟩
      · rintro ⟨b', hb', rfl⟩
        have : b' = b := by have := List.mem_singleton.1 hb'; omega
        subst this; simp
    · rw [leafR_node (h.big hi h1), List.mem_flatMap]
      constructor
      · rintro ⟨q, hq, hy⟩
        obtain ⟨c, hc, rfl⟩ := List.mem_map.1 hq
        obtain ⟨c1, c2, c3⟩ := mem_kidsL.1 hc
        obtain ⟨b, hb, e⟩ := (NodeSets.leaves h d c (by omega) c1 y).1 hy
        exact ⟨b, (h.kid_sub c1 (by omega) c3).1 _ hb, e⟩
      · rintro ⟨b, hb, rfl⟩
        obtain ⟨c, c1, c2, c3, c4⟩ := h.kid_of hi h1 hb
        exact ⟨_, List.mem_map.2 ⟨c, mem_kidsL.2 ⟨c1, c2, c3⟩, rfl⟩, (NodeSets.leaves h d c (by omega) c1 _).2 ⟨b, c4, rfl⟩⟩
theorem NodeSets.part (h : NodeSets names t S) {i : Nat} (hi : i < t.ps.length) : PartOk (toRF (frT t) (rkT t) i) := by
  have ht := h.tree
  unfold PartOk
  rw [toRF_nm (frT_arb ht).wf hi, toRF_kids (frT_arb ht).wf hi, frT_kids, show (frT t).nm i = gs t.ns i from rfl]
  by_cases h1 : (S i).length = 1
  · obtain ⟨b, hb, e, en⟩ := h.one hi h1
    rw [h.nokid hi h1, en]
    exact ⟨fun q => absurd rfl q, fun _ => h.nm b hb, by simp⟩
  · have hof : ∀ x ∈ S i, ∃ c ∈ kidsL t.ps i, x ∈ S c := fun x hx => by
      obtain ⟨c, c1, c2, c3, c4⟩ := h.kid_of hi h1 hx
      exact ⟨c, mem_kidsL.2 ⟨c1, c2, c3⟩, c4⟩
    refine ⟨fun _ => h.big hi h1, fun q => ?_, fun q => ?_⟩
    · have q : kidsL t.ps i = [] := by simpa using q
      obtain ⟨x, hx⟩ := h.meet hi
      obtain ⟨c, hc, _⟩ := hof x hx
      rw [q] at hc; cases hc
    · rw [List.length_map] at q
      obtain ⟨c, hc⟩ := List.length_eq_one_iff.1 q
      obtain ⟨c1, c2, c3⟩ := mem_kidsL.1 (show c ∈ kidsL t.ps i by rw [hc]; simp)
      have := h.inj i c hi c1 (fun x hx => by
        obtain ⟨c', hc', hx'⟩ := hof x hx
        rw [hc, List.mem_singleton] at hc'
        subst hc'; exact hx') (h.kid_sub c1 (by omega) c3).1
      omega
theorem NodeSets.oku (h : NodeSets names t S) : OkU (toR t) := by
  have ht := h.tree
  refine ⟨(good_toR ht).nd, fun s hs => ?_⟩
  rw [subR_toR ht] at hs
  obtain ⟨j, hj, rfl⟩ := List.mem_map.1 hs
  exact h.part (mem_nodes_lt ht hj)
theorem NodeSets.node (h : NodeSets names t S) : ∀ (d i : Nat), i ≤ d → i < t.ps.length → toRF (frT t) (rkT t) i ∈ subR (toR t)
  | d, i, hd, hi => by
    have ht := h.tree
    by_cases h0 : i = 0
    · subst h0; exact subR_self _
    · obtain ⟨p, p1, p2, _⟩ := h.par i (by omega) hi
      cases d with
      | zero => omega
      | succ d =>
        have ih := NodeSets.node h d p (by omega) (by omega)
        refine subR_trans _ ih ?_
        rw [toRF_eq (frT_arb ht).wf (show p < t.ps.length by omega), frT_kids]
        exact mem_kid (List.mem_map.2 ⟨i, mem_kidsL.2 ⟨hi, p1, p2⟩, rfl⟩)
theorem NodeSets.parts (h : NodeSets names t S) : (∀ s ∈ subR (toR t), ∃ i, i < t.ps.length ∧ Lv names s (S i)) ∧ ∀ i, i < t.ps.length → ∃ s ∈ subR (toR t), Lv names s (S i) := by
  have ht := h.tree
  constructor
  · intro s hs
    rw [subR_toR ht] at hs
    obtain ⟨j, hj, rfl⟩ := List.mem_map.1 hs
    have := mem_nodes_lt ht hj
    exact ⟨j, this, h.leaves _ j (Nat.le_refl _) this⟩
  · exact fun i hi => ⟨_, h.node i i (Nat.le_refl _) hi, h.leaves _ i (Nat.le_refl _) hi⟩
end
end Go.Proofs.YtpjijbophjdgaaaGreat
