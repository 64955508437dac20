/- Trees whose nodes stand for nested sets of names: valid, without one-child nodes; their parts. Plain. Forests whose nodes change below one node: plain. phylotree.pruned: what it does to the forest. slices.IndexFunc, slices.DeleteFunc at nodes. -/
import Derived.Test.YtcbmbhghmfehpaaGreatQ17
import Derived.Test.YtcbmbhghmfehpaaGreatQ14
import Derived.Test.YtcbmbhghmfehpaaGreatQ6
import Derived.Test.YtcbmbhghmfehpaaGreatQ3
import Derived.Lib.SliceRun
namespace Go.Proofs.YtcbmbhghmfehpaaGreat
/-- Node i of t stands for the set S i of names; the parent's set is the least one above. -/
structure NodeSets (names : List ByteArray) (t : Tre) (S : Nat → List Int) : Prop where
  nm : ∀ k, k < names.length → namedB (gs names k).data.toList = true
  nd : ∀ j k, j < k → k < names.length → gs names k ≠ gs names j
  n0 : 0 < t.ps.length
  n64 : t.ps.length ≤ 64
  len : t.ns.length = t.ps.length
  root : gi t.ps 0 = -1
  top : ∀ b : Nat, b < names.length → (b : Int) ∈ S 0
  bd : ∀ i, i < t.ps.length → (∀ x ∈ S i, 0 ≤ x ∧ x < (names.length : Int)) ∧ S i ≠ []
  par : ∀ i, 0 < i → i < t.ps.length → ∃ p, p < i ∧ gi t.ps i = (p : Int) ∧ (∀ x ∈ S i, x ∈ S p) ∧ ∀ j, j < t.ps.length → j ≠ i → (∀ x ∈ S i, x ∈ S j) → ∀ x ∈ S p, x ∈ S j
  inj : ∀ i j, i < t.ps.length → j < t.ps.length → (∀ x ∈ S i, x ∈ S j) → (∀ x ∈ S j, x ∈ S i) → i = j
  sing : ∀ b : Nat, b < names.length → ∃ i, i < t.ps.length ∧ S i = [(b : Int)]
  nms : ∀ i, i < t.ps.length → gs t.ns i = nmI names (S i)
  asc : ∀ i, i < t.ps.length → (S i).Nodup
section
variable {names : List ByteArray} {t : Tre} {S : Nat → List Int}
theorem NodeSets.kid_sub (h : NodeSets names t S) {i c : Nat} (hc : c < t.ps.length) (h0 : 0 < c) (e : gi t.ps c = (i : Int)) : (∀ x ∈ S c, x ∈ S i) ∧ i < c := by
  obtain ⟨p, p1, p2, p3, _⟩ := h.par c h0 hc
  rw [e] at p2
  have : i = p := by omega
  subst this; exact ⟨p3, p1⟩
theorem NodeSets.meet (h : NodeSets names t S) {i : Nat} (hi : i < t.ps.length) : ∃ x, x ∈ S i := List.exists_mem_of_ne_nil _ (h.bd i hi).2
theorem NodeSets.kid (h : NodeSets names t S) {i : Nat} (hi : i < t.ps.length) : ∀ (d p : Nat), p ≤ d → p < t.ps.length → p ≠ i → (∀ x ∈ S p, x ∈ S i) → ∃ c, c < t.ps.length ∧ i < c ∧ gi t.ps c = (i : Int) ∧ ∀ x ∈ S p, x ∈ S c := by
  have z : ∀ p, p < t.ps.length → p ≠ i → (∀ x ∈ S p, x ∈ S i) → 0 < p := fun p hp hne hs => by
    rcases Nat.eq_zero_or_pos p with e | e
    · subst e
      refine absurd (h.inj 0 i hp hi hs fun x hx => ?_) hne
      obtain ⟨x0, xn⟩ := (h.bd i hi).1 x hx
      have := h.top x.toNat (by omega)
      rwa [Int.toNat_of_nonneg x0] at this
    · exact e
  intro d
  induction d with
  | zero => intro p hd hp hne hs; have := z p hp hne hs; omega
  | succ d ih =>
    intro p hd hp hne hs
    obtain ⟨q, q1, q2, q3, q4⟩ := h.par p (z p hp hne hs) hp
    by_cases c : q = i
    · subst c; exact ⟨p, hp, q1, q2, fun x hx => hx⟩
    · obtain ⟨k, k1, k2, k3, k4⟩ := ih q (by omega) (by omega) c (q4 i hi (fun e => hne e.symm) hs)
      exact ⟨k, k1, k2, k3, fun x hx => k4 x (q3 x hx)⟩
theorem NodeSets.kid_of (h : NodeSets names t S) {i : Nat} (hi : i < t.ps.length) (h2 : (S i).length ≠ 1) {x : Int} (hx : x ∈ S i) : ∃ c, c < t.ps.length ∧ i < c ∧ gi t.ps c = (i : Int) ∧ x ∈ S c := by
  obtain ⟨x0, xn⟩ := (h.bd i hi).1 x hx
  obtain ⟨k, rfl⟩ : ∃ k : Nat, x = k := ⟨x.toNat, by omega⟩
  obtain ⟨p, hp, e⟩ := h.sing k (by omega)
  have hne : p ≠ i := fun q => by subst q; rw [e] at h2; exact h2 rfl
  obtain ⟨c, c1, c2, c3, c4⟩ := h.kid hi p p (Nat.le_refl _) hp hne (fun y hy => by rw [e, List.mem_singleton] at hy; subst hy; exact hx)
  exact ⟨c, c1, c2, c3, c4 _ (by rw [e]; simp)⟩
theorem NodeSets.inn (h : NodeSets names t S) {i : Nat} (hi : i < t.ps.length) : isIn t.ps i = true ↔ (S i).length ≠ 1 := by
  unfold isIn inK
  rw [List.any_eq_true]
  constructor
  · rintro ⟨c, hc, e⟩ h1
    have hc := List.mem_range.1 hc
    rw [Bool.and_eq_true, decide_eq_true_eq, beq_iff_eq] at e
    obtain ⟨s1, s2⟩ := h.kid_sub hc e.1 e.2
    obtain ⟨b, hb⟩ := List.length_eq_one_iff.1 h1
    obtain ⟨z, hz⟩ := h.meet hc
    have hzb := s1 z hz
    rw [hb, List.mem_singleton] at hzb
    have := h.inj i c hi hc (fun x hx => by rw [hb, List.mem_singleton] at hx; rw [hx, ← hzb]; exact hz) s1
    omega
  · intro h1
    obtain ⟨x, hx⟩ := h.meet hi
    obtain ⟨c, c1, c2, c3, _⟩ := h.kid_of hi h1 hx
    exact ⟨c, List.mem_range.2 c1, by rw [c3]; simp; omega⟩
theorem NodeSets.one (h : NodeSets names t S) {i : Nat} (hi : i < t.ps.length) (h1 : (S i).length = 1) : ∃ b : Nat, b < names.length ∧ S i = [(b : Int)] ∧ gs t.ns i = gs names b := by
  obtain ⟨x, hx⟩ := List.length_eq_one_iff.1 h1
  obtain ⟨x0, xn⟩ := (h.bd i hi).1 x (by rw [hx]; simp)
  refine ⟨x.toNat, by omega, by rw [hx]; congr 1; omega, ?_⟩
  rw [h.nms i hi, nmI, if_pos h1, hx]; rfl
theorem NodeSets.big (h : NodeSets names t S) {i : Nat} (hi : i < t.ps.length) (h1 : (S i).length ≠ 1) : (gs t.ns i).size = 0 := by
  rw [h.nms i hi, nmI, if_neg h1]; rfl
theorem NodeSets.pok (h : NodeSets names t S) : pOkB t.ps = true := by
  unfold pOkB
  rw [List.all_eq_true]
  intro i hi
  have hi := List.mem_range.1 hi
  unfold okp
  by_cases c : i = 0
  · subst c; rw [h.root]; rfl
  · rw [if_neg c]
    obtain ⟨p, h1, h2, _⟩ := h.par i (by omega) hi
    rw [h2]; simp; omega
theorem NodeSets.tree (h : NodeSets names t S) : treeErr t = 0 := by
  have hp := h.n0
  have h64 := h.n64
  unfold treeErr
  rw [if_neg (by omega), if_neg (by omega), if_neg (by rw [h.len]; simp), if_pos h.pok]
  refine firstNZ_zero fun i hi => ?_
  unfold nErr
  by_cases h1 : (S i).length = 1
  · rw [if_neg (fun q => (h.inn hi).1 q h1)]
    obtain ⟨b, hb, e, en⟩ := h.one hi h1
    have hn := h.nm b hb
    rw [en, if_pos hn, if_neg]
    intro q
    unfold seenK at q
    obtain ⟨j, hj, e2⟩ := List.any_eq_true.1 q
    have hj := List.mem_range.1 hj
    have e2 := of_decide_eq_true e2
    rw [en] at e2
    by_cases j1 : (S j).length = 1
    · obtain ⟨b', hb', e', en'⟩ := h.one (show j < t.ps.length by omega) j1
      rw [en'] at e2
      have : b' = b := by
        rcases Nat.lt_trichotomy b' b with c | c | c
        · exact absurd e2.symm (h.nd b' b c hb)
        · exact c
        · exact absurd e2 (h.nd b b' c hb')
      subst this
      have := h.inj j i (by omega) hi (by rw [e', e]; exact fun x hx => hx) (by rw [e', e]; exact fun x hx => hx)
      omega
    · have := h.big (show j < t.ps.length by omega) j1
      rw [e2] at this
      exact named_size hn this
  · rw [if_pos ((h.inn hi).2 h1), if_pos (h.big hi h1)]
theorem NodeSets.nokid (h : NodeSets names t S) {i : Nat} (hi : i < t.ps.length) (h1 : (S i).length = 1) : kidsL t.ps i = [] := by
  rw [List.eq_nil_iff_forall_not_mem]
  intro c hc
  obtain ⟨c1, c2, c3⟩ := mem_kidsL.1 hc
  refine (h.inn hi).1 ?_ h1
  unfold isIn inK
  rw [List.any_eq_true]
  exact ⟨c, List.mem_range.2 c1, by rw [c3]; simp; omega⟩
theorem NodeSets.leaves (h : NodeSets names t S) : ∀ d i, t.ps.length - i ≤ d → i < t.ps.length → Lv names (toRF (frT t) (rkT t) i) (S i)
  | 0, i, hd, hi => by omega
  | d + 1, i, hd, hi => by
    have ht := h.tree
    intro y
    rw [toRF_eq (frT_arb ht).wf hi, frT_kids, show (frT t).nm i = gs t.ns i from rfl]
    by_cases h1 : (S i).length = 1
    · obtain ⟨b, hb, e, en⟩ := h.one hi h1
      rw [h.nokid hi h1, List.map_nil, en, leafR_leaf (named_size (h.nm b hb)), e]
      constructor
      · intro hy; exact ⟨b, by simp, by simpa using hy⟩
      · rintro ⟨b', hb', rfl⟩
        have : b' = b := by have := List.mem_singleton.1 hb'; omega
        subst this; simp
    · rw [leafR_node (h.big hi h1), List.mem_flatMap]
      constructor
      · rintro ⟨q, hq, hy⟩
        obtain ⟨c, hc, rfl⟩ := List.mem_map.1 hq
        obtain ⟨c1, c2, c3⟩ := mem_kidsL.1 hc
        obtain ⟨b, hb, e⟩ := (NodeSets.leaves h d c (by omega) c1 y).1 hy
        exact ⟨b, (h.kid_sub c1 (by omega) c3).1 _ hb, e⟩
      · rintro ⟨b, hb, rfl⟩
        obtain ⟨c, c1, c2, c3, c4⟩ := h.kid_of hi h1 hb
        exact ⟨_, List.mem_map.2 ⟨c, mem_kidsL.2 ⟨c1, c2, c3⟩, rfl⟩, (NodeSets.leaves h d c (by omega) c1 _).2 ⟨b, c4, rfl⟩⟩
theorem NodeSets.part (h : NodeSets names t S) {i : Nat} (hi : i < t.ps.length) : PartOk (toRF (frT t) (rkT t) i) := by
  have ht := h.tree
  unfold PartOk
  rw [toRF_nm (frT_arb ht).wf hi, toRF_kids (frT_arb ht).wf hi, frT_kids, show (frT t).nm i = gs t.ns i from rfl]
  by_cases h1 : (S i).length = 1
  · obtain ⟨b, hb, e, en⟩ := h.one hi h1
    rw [h.nokid hi h1, en]
    exact ⟨fun q => absurd rfl q, fun _ => h.nm b hb, by simp⟩
  · have hof : ∀ x ∈ S i, ∃ c ∈ kidsL t.ps i, x ∈ S c := fun x hx => by
      obtain ⟨c, c1, c2, c3, c4⟩ := h.kid_of hi h1 hx
      exact ⟨c, mem_kidsL.2 ⟨c1, c2, c3⟩, c4⟩
    refine ⟨fun _ => h.big hi h1, fun q => ?_, fun q => ?_⟩
    · have q : kidsL t.ps i = [] := by simpa using q
      obtain ⟨x, hx⟩ := h.meet hi
      obtain ⟨c, hc, _⟩ := hof x hx
      rw [q] at hc; cases hc
    · rw [List.length_map] at q
      obtain ⟨c, hc⟩ := List.length_eq_one_iff.1 q
      obtain ⟨c1, c2, c3⟩ := mem_kidsL.1 (show c ∈ kidsL t.ps i by rw [hc]; simp)
      have := h.inj i c hi c1 (fun x hx => by
        obtain ⟨c', hc', hx'⟩ := hof x hx
        rw [hc, List.mem_singleton] at hc'
        subst hc'; exact hx') (h.kid_sub c1 (by omega) c3).1
      omega
theorem NodeSets.oku (h : NodeSets names t S) : OkU (toR t) := by
  have ht := h.tree
  refine ⟨(good_toR ht).nd, fun s hs => ?_⟩
  rw [subR_toR ht] at hs
  obtain ⟨j, hj, rfl⟩ := List.mem_map.1 hs
  exact h.part (mem_nodes_lt ht hj)
theorem NodeSets.node (h : NodeSets names t S) : ∀ (d i : Nat), i ≤ d → i < t.ps.length → toRF (frT t) (rkT t) i ∈ subR (toR t)
  | d, i, hd, hi => by
    have ht := h.tree
    by_cases h0 : i = 0
    · subst h0; exact subR_self _
    · obtain ⟨p, p1, p2, _⟩ := h.par i (by omega) hi
      cases d with
      | zero => omega
      | succ d =>
        have ih := NodeSets.node h d p (by omega) (by omega)
        refine subR_trans _ ih ?_
        rw [toRF_eq (frT_arb ht).wf (show p < t.ps.length by omega), frT_kids]
        exact mem_kid (List.mem_map.2 ⟨i, mem_kidsL.2 ⟨hi, p1, p2⟩, rfl⟩)
/-- Each part stands for a node's set, and each node has a part. -/
theorem NodeSets.parts (h : NodeSets names t S) : (∀ s ∈ subR (toR t), ∃ i, i < t.ps.length ∧ Lv names s (S i)) ∧ ∀ i, i < t.ps.length → ∃ s ∈ subR (toR t), Lv names s (S i) := by
  have ht := h.tree
  constructor
  · intro s hs
    rw [subR_toR ht] at hs
    obtain ⟨j, hj, rfl⟩ := List.mem_map.1 hs
    have := mem_nodes_lt ht hj
    exact ⟨j, this, h.leaves _ j (Nat.le_refl _) this⟩
  · exact fun i hi => ⟨_, h.node i i (Nat.le_refl _) hi, h.leaves _ i (Nat.le_refl _) hi⟩
end
end Go.Proofs.YtcbmbhghmfehpaaGreat
namespace Go.Proofs.YtcbmbhghmfehpaaGreat
section
variable {F G : Frs} {n : Nat} {rk : Nat → Nat}
theorem kids_nil0 (h : Wf F n rk) {i : Nat} (hi : i < n) (h0 : rk i ≤ 0) : F.kids i = [] := by
  cases hk : F.kids i with
  | nil => rfl
  | cons k l => have := (h.kid i hi k (by rw [hk]; simp)).2; omega
theorem sub_trans (h : Wf F n rk) : ∀ {d i j z : Nat}, i < n → rk i ≤ d → subF F rk i j = true → subF F rk j z = true → subF F rk i z = true := by
  intro d
  induction d with
  | zero =>
    intro i j z hi hd h1 h2
    rw [subF_eq h hi, kids_nil0 h hi hd] at h1
    have : j = i := by simpa using h1
    subst this; exact h2
  | succ d ih =>
    intro i j z hi hd h1 h2
    rcases subF_cases h hi h1 with e | ⟨k, hk, h3⟩
    · subst e; exact h2
    · have hkk := h.kid i hi k hk
      exact subF_kid h hi hk (ih hkk.1 (by omega) h3 h2)
theorem sub_cong (hF : Wf F n rk) (hG : Wf G n rk) : ∀ {d c : Nat}, c < n → rk c ≤ d → (∀ z, subF F rk c z = true → G.kids z = F.kids z) → ∀ z, subF G rk c z = subF F rk c z := by
  intro d
  induction d with
  | zero =>
    intro c hc hd hz z
    rw [subF_eq hF hc, subF_eq hG hc, kids_nil0 hF hc hd, kids_nil0 hG hc hd]; rfl
  | succ d ih =>
    intro c hc hd hz z
    rw [subF_eq hF hc, subF_eq hG hc, hz c (subF_self hF hc)]
    congr 1
    rw [Bool.eq_iff_iff, List.any_eq_true, List.any_eq_true]
    have key : ∀ k ∈ F.kids c, subF G rk k z = subF F rk k z := fun k hk => by
      have hkk := hF.kid c hc k hk
      exact ih hkk.1 (by omega) (fun y hy => hz y (subF_kid hF hc hk hy)) z
    constructor
    · rintro ⟨k, hk, e⟩; exact ⟨k, hk, by rw [← key k hk]; exact e⟩
    · rintro ⟨k, hk, e⟩; exact ⟨k, hk, by rw [key k hk]; exact e⟩
/-- Does i stay, if the leaves of P do? -/
def alD (F : Frs) (P : Nat → Bool) : Nat → Nat → Bool
  | 0, i => P i
  | d + 1, i => if F.kids i = [] then P i else (F.kids i).any (alD F P d)
def al (F : Frs) (P : Nat → Bool) (rk : Nat → Nat) (i : Nat) : Bool := alD F P (rk i) i
theorem any_congr {α : Type} {f g : α → Bool} : ∀ {l : List α}, (∀ k ∈ l, f k = g k) → l.any f = l.any g
  | [], _ => rfl
  | a :: l, h => by rw [List.any_cons, List.any_cons, h a (by simp), any_congr fun k hk => h k (by simp [hk])]
theorem alD_fuel {P : Nat → Bool} (h : Wf F n rk) : ∀ {d e i : Nat}, i < n → rk i ≤ d → rk i ≤ e → alD F P d i = alD F P e i := by
  intro d
  induction d with
  | zero =>
    intro e i hi hd he
    cases e with
    | zero => rfl
    | succ e => simp [alD, kids_nil0 h hi hd]
  | succ d ih =>
    intro e i hi hd he
    cases e with
    | zero => simp [alD, kids_nil0 h hi he]
    | succ e =>
      simp only [alD]
      split
      · rfl
      · exact any_congr fun k hk => by
          have := h.kid i hi k hk
          exact ih this.1 (by omega) (by omega)
theorem al_eq {P : Nat → Bool} (h : Wf F n rk) {i : Nat} (hi : i < n) : al F P rk i = if F.kids i = [] then P i else (F.kids i).any (al F P rk) := by
  have h1 : al F P rk i = alD F P (rk i + 1) i := alD_fuel h hi (Nat.le_refl _) (Nat.le_succ _)
  rw [h1]
  simp only [alD]
  split
  · rfl
  · exact any_congr fun k hk => by
      have := h.kid i hi k hk
      exact alD_fuel h this.1 (by omega) (Nat.le_refl _)
theorem al_cong {P : Nat → Bool} (hF : Wf F n rk) (hG : Wf G n rk) : ∀ {d c : Nat}, c < n → rk c ≤ d → (∀ z, subF F rk c z = true → G.kids z = F.kids z) → al G P rk c = al F P rk c := by
  intro d
  induction d with
  | zero =>
    intro c hc hd hz
    rw [al_eq hF hc, al_eq hG hc, kids_nil0 hF hc hd, kids_nil0 hG hc hd]; rfl
  | succ d ih =>
    intro c hc hd hz
    rw [al_eq hF hc, al_eq hG hc, hz c (subF_self hF hc)]
    split
    · rfl
    · exact any_congr fun k hk => by
        have hkk := hF.kid c hc k hk
        exact ih hkk.1 (by omega) fun y hy => hz y (subF_kid hF hc hk hy)
/-- Below i: no child stands twice, and nothing lies below two children. -/
def Dis (F : Frs) (n : Nat) (rk : Nat → Nat) (i : Nat) : Prop :=
  ∀ z, z < n → subF F rk i z = true → (F.kids z).Nodup ∧ ∀ x ∈ F.kids z, ∀ y ∈ F.kids z, ∀ j, subF F rk x j = true → subF F rk y j = true → x = y
theorem Dis.kid (h : Wf F n rk) {i k : Nat} (hi : i < n) (hk : k ∈ F.kids i) (hD : Dis F n rk i) : Dis F n rk k := fun z hz hs => hD z hz (subF_kid h hi hk hs)
/-- The nodes below i get the lists of q. -/
def Frs.sub (F : Frs) (rk : Nat → Nat) (q : Nat → List Nat) (i : Nat) : Frs := ⟨F.nm, F.old, fun z => if subF F rk i z then q z else F.kids z⟩
/-- The nodes below the first k of L get the lists of q. -/
def Frs.upto (F : Frs) (rk : Nat → Nat) (q : Nat → List Nat) (L : List Nat) (k : Nat) : Frs := ⟨F.nm, F.old, fun z => if (L.take k).any (fun c => subF F rk c z) then q z else F.kids z⟩
/-- Below the next child nothing has changed. -/
theorem upto_fresh (h : Wf F n rk) {q : Nat → List Nat} {y k c : Nat} (hy : y < n) (hD : Dis F n rk y) (hc : (F.kids y)[k]? = some c) : ∀ z, subF F rk c z = true → (F.upto rk q (F.kids y) k).kids z = F.kids z := fun z hs => by
  show (if _ then _ else _) = _
  rw [if_neg]
  intro e
  obtain ⟨b, hb, e⟩ := List.any_eq_true.1 e
  obtain ⟨h1, h2⟩ := hD y hy (subF_self h hy)
  obtain ⟨j, hj, ej⟩ := List.getElem_of_mem hb
  rw [List.getElem_take] at ej
  have hjk : j < k := by rw [List.length_take] at hj; omega
  obtain ⟨hkl, ek⟩ := List.getElem?_eq_some_iff.1 hc
  have := h2 b (List.mem_of_mem_take hb) c (by rw [← ek]; exact List.getElem_mem hkl) z e hs
  rw [← ej, ← ek] at this
  have := (List.getElem_inj h1).1 this
  omega
theorem upto_succ {q : Nat → List Nat} {L : List Nat} {k c : Nat} (hc : L[k]? = some c) (z : Nat) : (F.upto rk q L (k + 1)).kids z = if subF F rk c z then q z else (F.upto rk q L k).kids z := by
  show (if _ then _ else _) = if _ then _ else (if _ then _ else _)
  rw [List.take_add_one, hc, List.any_append]
  simp only [Option.toList, List.any_cons, List.any_nil, Bool.or_false]
  cases (L.take k).any (fun c => subF F rk c z) <;> cases subF F rk c z <;> rfl
theorem upto_all (h : Wf F n rk) {q : Nat → List Nat} {y z : Nat} (hy : y < n) (hz : z ≠ y) : (F.upto rk q (F.kids y) (F.kids y).length).kids z = (F.sub rk q y).kids z := by
  show (if _ then _ else _) = if _ then _ else _
  rw [List.take_length, subF_eq h hy, show (z == y) = false from beq_eq_false_iff_ne.2 hz, Bool.false_or]
end
end Go.Proofs.YtcbmbhghmfehpaaGreat
namespace Go.Proofs.YtcbmbhghmfehpaaGreat
open Go.RowKit Go.Deep
section
variable {P : Program} {ops : Array Oper} {rest : List Oper} {o : Oper} {a : Act} {Q : Exit → Act → World → Prop}
/-- 'out = append(out, u)': the block is the old one or a new one. -/
theorem wpList_appG (W : World) (hgd : o.guard = none) (s x : Operand) (t : TypeId) (ho : o.op = .call { callee := .builtin .append, args := #[s, x], argTypes := #[t, t] })
    (base : Nat) (e : TypeId) (z : Value) (bytes : Nat) (ht : P.underlying t = some (.slice e)) (hinfo : (P.info? e).map (fun i => (i.zero, i.size, i.bytes)) = some (some z, 1, bytes))
    (hz1 : z.cells.size = 1) (hb8 : bytes ≤ 64) {v : Value} {vs : List Value} (hown : Owns base e W v vs) (hs : a.eval s = v) (u : Value)
    (hx : a.eval x = .slice (some ⟨W.heap.size, 0, none⟩) 1 1) (h1 : u.oneCell' = true) (k : Nat) (hvn : vs.length = k) (hn : k ≤ 1000000) (hbase : base ≤ W.heap.size)
    (h : ∀ g cap w', Owns base e w' (.slice (some ⟨g, 0, none⟩) (k + 1) cap) (vs ++ [u]) → W.grownBy w' v.ownBlock → (v.ownBlock = some g ∨ W.heap.size ≤ g) → wpList P ops Q rest (a.put o.dst (.slice (some ⟨g, 0, none⟩) (k + 1) cap)) w') :
    wpList P ops Q (o :: rest) a (W.alloc (.cells #[u] e)) := by
  subst hvn
  obtain ⟨i, hi, hzz⟩ := Option.map_eq_some_iff.1 hinfo
  simp only [Prod.mk.injEq] at hzz
  obtain ⟨hz, hs1, hb⟩ := hzz
  refine wpList_append_lies _ hgd s x t ho base e i z 1 bytes ht hi hz hs1 hb hz1 (by omega) v vs.length vs hs (hown.alloc _) ⟨W.heap.size, 0, none⟩ 1 1 [u] hx rfl (cell_one_new _ _ _) (by simpa using h1) (by omega)
    (by unfold maxLen; omega) ?_ (by simp; omega) _ rfl fun g cap w' h2 h3 h4 _ => h g cap w' ?_ (grown_alloc h3) (h4.imp id fun e => by rw [e, World.size_alloc]; omega)
  · have : (vs.length + 1) * bytes ≤ (vs.length + 1) * 64 := Nat.mul_le_mul_left _ hb8
    omega
  · unfold Owns; rw [List.length_append]; exact h2
end
/-- Only blocks of nodes may have changed. -/
structure PUp (n : Nat) (A : Nat → Nat) (w w' : World) : Prop where
  os : w'.os = w.os
  tape : w'.tape = w.tape
  output : w'.output = w.output
  size : w.heap.size ≤ w'.heap.size
  block : ∀ b, b < w.heap.size → (∀ i, i < n → b ≠ A i) → w'.heap[b]? = w.heap[b]?
section
variable {n base : Nat} {A : Nat → Nat} {kv : Nat → Value} {F : Frs} {w w' w2 : World} {P : Nat → Bool} {rk : Nat → Nat}
theorem PUp.refl (n : Nat) (A : Nat → Nat) (w : World) : PUp n A w w := ⟨rfl, rfl, rfl, Nat.le_refl _, fun _ _ _ => rfl⟩
theorem PUp.trans (h : PUp n A w w') (k : PUp n A w' w2) : PUp n A w w2 :=
  ⟨k.os.trans h.os, k.tape.trans h.tape, k.output.trans h.output, Nat.le_trans h.size k.size, fun b hb hA => (k.block b (Nat.lt_of_lt_of_le hb h.size) hA).trans (h.block b hb hA)⟩
theorem PUp.of_up (k : Up w w') : PUp n A w w' := ⟨k.os, k.tape, k.output, k.size, fun b hb _ => Below.block k b hb⟩
theorem PUp.below (h : PUp n A w w') (hlo : ∀ i, i < n → base ≤ A i) (hs : base ≤ w.heap.size) : Below base w w' :=
  ⟨h.os, h.tape, h.output, h.size, fun b hb => h.block b (by omega) fun i hi e => by have := hlo i hi; omega⟩
/-- One list of children is replaced by one that lies apart. -/
theorem FAt.putF (h : FAt base n A kv F w) {k : Nat} (hk : k < n) {v : Value} {ks : List Nat} (hv : Owns base 145 w v (ks.map (nptr A)))
    (hA : ∀ b, v.ownBlock = some b → ∀ i, i < n → b ≠ A i) (hkv : ∀ b, v.ownBlock = some b → ∀ i, i < n → (kv i).ownBlock ≠ some b) (hks : ∀ j ∈ ks, j < n) :
    FAt base n A (upd kv k v) { F with kids := upd F.kids k ks } (w.setCell ⟨A k, 1, none⟩ v) := by
  refine ⟨fun i hi => ?_, h.lo, h.inj, fun i hi => ?_, fun i j hi hj => ?_, fun i j b hi hj h1 h2 => ?_, fun i hi => ?_⟩
  · by_cases e : i = k
    · subst e; rw [upd_same]
      have hn := h.node i hi
      simp [World.setCell, Array.getElem?_modify, hn]
    · rw [upd_ne _ _ e, blk_setCell_other _ _ _ _ (fun e2 => e (h.inj i k hi hk e2))]; exact h.node i hi
  · by_cases e : i = k
    · subst e; simp only [upd_same]; exact hv.same fun b hb => blk_setCell_other _ _ _ _ (hA b hb i hi)
    · simp only [upd_ne _ _ e]; exact (h.own i hi).same fun b hb => blk_setCell_other _ _ _ _ (fun e2 => h.apart i k hi hk (by rw [hb, e2]))
  · by_cases e : i = k
    · subst e; rw [upd_same]; intro h3; exact hA _ h3 j hj rfl
    · rw [upd_ne _ _ e]; exact h.apart i j hi hj
  · by_cases e1 : i = k
    · by_cases e2 : j = k
      · rw [e1, e2]
      · subst e1
        rw [upd_same] at h1
        rw [upd_ne _ _ e2] at h2
        exact absurd h2 (hkv b h1 j hj)
    · by_cases e2 : j = k
      · subst e2
        rw [upd_same] at h2
        rw [upd_ne _ _ e1] at h1
        exact absurd h1 (hkv b h2 i hi)
      · rw [upd_ne _ _ e1] at h1
        rw [upd_ne _ _ e2] at h2
        exact h.alone i j b hi hj h1 h2
  · by_cases e : i = k
    · subst e; simp only [upd_same]; exact hks
    · simp only [upd_ne _ _ e]; exact h.kid i hi
def prQ (F : Frs) (P : Nat → Bool) (rk : Nat → Nat) (z : Nat) : List Nat := (F.kids z).filter (al F P rk)
structure PrD (base n : Nat) (A : Nat → Nat) (F : Frs) (P : Nat → Bool) (rk : Nat → Nat) (kv : Nat → Value) (i : Nat) (w : World) (kv' : Nat → Value) (w' : World) : Prop where
  fr : FAt base n A kv' (F.sub rk (prQ F P rk) i) w'
  up : PUp n A w w'
  new : ∀ j b, j < n → (kv' j).ownBlock = some b → (kv j).ownBlock = some b ∨ w.heap.size ≤ b
  old : ∀ z, subF F rk i z = false → kv' z = kv z
/-- Behind the first k children; m of them are in the list. -/
structure PrW (base n : Nat) (A : Nat → Nat) (F : Frs) (P : Nat → Bool) (rk : Nat → Nat) (kv : Nat → Value) (i : Nat) (w : World) (kvk : Nat → Value) (wr : World) (d : Value) (k m : Nat) : Prop where
  fr : FAt base n A kvk (F.upto rk (prQ F P rk) (F.kids i) k) wr
  up : PUp n A w wr
  new : ∀ j b, j < n → (kvk j).ownBlock = some b → (kv j).ownBlock = some b ∨ w.heap.size ≤ b
  old : ∀ z, subF F rk i z = false ∨ z = i → kvk z = kv z
  own : Owns w.heap.size 145 wr d ((((F.kids i).take m).filter (al F P rk)).map (nptr A))
  far : ∀ b, d.ownBlock = some b → ∀ j, j < n → (kvk j).ownBlock ≠ some b
theorem upto_wf (h : Wf F n rk) (P : Nat → Bool) (L : List Nat) (k : Nat) : Wf (F.upto rk (prQ F P rk) L k) n rk := ⟨fun i hi j hj => by
  have hj : j ∈ if _ then _ else _ := hj
  split at hj
  · exact h.kid i hi j (List.mem_filter.1 hj).1
  · exact h.kid i hi j hj⟩
theorem FAt.congr2 {G : Frs} (h : FAt base n A kv F w) (e : ∀ j, j < n → G.nm j = F.nm j ∧ G.old j = F.old j ∧ G.kids j = F.kids j) : FAt base n A kv G w :=
  ⟨fun i hi => by rw [(e i hi).1, (e i hi).2.1]; exact h.node i hi, h.lo, h.inj, fun i hi => by rw [(e i hi).2.2]; exact h.own i hi, h.apart, h.alone, fun i hi => by rw [(e i hi).2.2]; exact h.kid i hi⟩
/-- The next child is done, and not yet in the list. -/
theorem PrW.step {kvk kv2 : Nat → Value} {wr w2 : World} {d : Value} {i k c m : Nat} (hF : FAt base n A kv F w) (h : PrW base n A F P rk kv i w kvk wr d k m) (hw : Wf F n rk) (hD : Dis F n rk i) (hi : i < n) (hc : (F.kids i)[k]? = some c)
    (h2 : PrD base n A (F.upto rk (prQ F P rk) (F.kids i) k) P rk kvk c wr kv2 w2) : PrW base n A F P rk kv i w kv2 w2 d (k + 1) m := by
  have hck : c ∈ F.kids i := List.mem_of_getElem? hc
  have hcn := (hw.kid i hi c hck).1
  have hz := upto_fresh hw (q := prQ F P rk) hi hD hc
  have hG := upto_wf hw P (F.kids i) k
  have hsub := sub_cong hw hG hcn (Nat.le_refl _) hz
  have hdl : ∀ b, d.ownBlock = some b → w.heap.size ≤ b ∧ b < wr.heap.size := fun b hb => ownBlock_lt h.own hb
  have hnA : ∀ b, d.ownBlock = some b → ∀ j, j < n → b ≠ A j := fun b hb j hj e => by have := (hdl b hb).1; have := hF.lt hj; omega
  refine ⟨h2.fr.congr2 fun z hzn => ⟨rfl, rfl, ?_⟩, h.up.trans h2.up, fun j b hj hb => ?_, fun z hz2 => ?_, h.own.same2 fun b hb => h2.up.block b (hdl b hb).2 (hnA b hb), fun b hb j hj e => ?_⟩
  · rw [upto_succ hc]
    show _ = if _ then _ else _
    rw [hsub]
    split
    · rename_i hs
      show List.filter (al F P rk) (F.kids z) = List.filter (al (F.upto rk (prQ F P rk) (F.kids i) k) P rk) ((F.upto rk (prQ F P rk) (F.kids i) k).kids z)
      rw [hz z hs]
      refine List.filter_congr fun k hk => ?_
      exact (al_cong hw hG (hw.kid z hzn k hk).1 (Nat.le_refl _) fun u hu => hz u (sub_trans hw hcn (Nat.le_refl _) hs (subF_kid hw hzn hk hu))).symm
    · rfl
  · rcases h2.new j b hj hb with e | e
    · exact h.new j b hj e
    · exact .inr (Nat.le_trans h.up.size e)
  · rw [h2.old z ?_]
    · exact h.old z hz2
    · rw [hsub]
      rcases hz2 with e | e
      · cases hs : subF F rk c z with
        | false => rfl
        | true => rw [subF_kid hw hi hck hs] at e; cases e
      · subst e; exact subF_not hw hi hck
  · rcases h2.new j b hj e with e2 | e2
    · exact h.far b hb j hj e2
    · have := (hdl b hb).2; omega
theorem take_filter {f : Nat → Bool} {L : List Nat} {k c : Nat} (hc : L[k]? = some c) : (L.take (k + 1)).filter f = (L.take k).filter f ++ if f c then [c] else [] := by
  rw [List.take_add_one, hc, List.filter_append]
  cases h : f c <;> simp [h]
theorem PrW.skip {kvk : Nat → Value} {wr : World} {d : Value} {i k c : Nat} (h : PrW base n A F P rk kv i w kvk wr d (k + 1) k) (hc : (F.kids i)[k]? = some c) (ha : al F P rk c = false) : PrW base n A F P rk kv i w kvk wr d (k + 1) (k + 1) :=
  ⟨h.fr, h.up, h.new, h.old, by rw [take_filter hc, ha]; simpa using h.own, h.far⟩
/-- It is put into the list. -/
theorem PrW.push {kvk : Nat → Value} {wr w3 : World} {d : Value} {i k c g m cap : Nat} (hF : FAt base n A kv F w) (h : PrW base n A F P rk kv i w kvk wr d (k + 1) k) (hc : (F.kids i)[k]? = some c) (ha : al F P rk c = true)
    (ho : Owns w.heap.size 145 w3 (.slice (some ⟨g, 0, none⟩) m cap) ((((F.kids i).take k).filter (al F P rk)).map (nptr A) ++ [nptr A c])) (hg : wr.grownBy w3 d.ownBlock) (hr : d.ownBlock = some g ∨ wr.heap.size ≤ g) :
    PrW base n A F P rk kv i w kvk w3 (.slice (some ⟨g, 0, none⟩) m cap) (k + 1) (k + 1) := by
  have hdl : ∀ b, d.ownBlock = some b → w.heap.size ≤ b ∧ b < wr.heap.size := fun b hb => ownBlock_lt h.own hb
  have hnA : ∀ j, j < n → some (A j) ≠ d.ownBlock := fun j hj e => by have := (hdl _ e.symm).1; have := hF.lt hj; omega
  refine ⟨h.fr.same (fun j hj => hg.block _ (h.fr.lt hj) (hnA j hj)) (fun j b hj hb => hg.block _ (h.fr.ownlt hj hb).2 fun e => h.far b e.symm j hj hb), ?_, h.new, h.old, by rw [take_filter hc, ha, if_pos rfl, List.map_append]; exact ho, fun b hb j hj e => ?_⟩
  · refine ⟨hg.os.trans h.up.os, hg.tape.trans h.up.tape, hg.output.trans h.up.output, Nat.le_trans h.up.size hg.size, fun b hb hA => ?_⟩
    exact (hg.block b (Nat.lt_of_lt_of_le hb h.up.size) fun e => by have := (hdl b e.symm).1; omega).trans (h.up.block b hb hA)
  · have hb : some g = some b := hb
    injection hb with hb
    subst hb
    rcases hr with e2 | e2
    · exact h.far g e2 j hj e
    · have := (h.fr.ownlt hj e).2; omega
/-- The list is the node's. -/
theorem PrW.done {kvk : Nat → Value} {wr : World} {d : Value} {i : Nat} (hF : FAt base n A kv F w) (h : PrW base n A F P rk kv i w kvk wr d (F.kids i).length (F.kids i).length) (hw : Wf F n rk) (hi : i < n) (hb : base ≤ w.heap.size) :
    PrD base n A F P rk kv i w (upd kvk i d) (wr.setCell ⟨A i, 1, none⟩ d) := by
  have hdl : ∀ b, d.ownBlock = some b → w.heap.size ≤ b ∧ b < wr.heap.size := fun b hb => ownBlock_lt h.own hb
  have hown : Owns base 145 wr d ((prQ F P rk i).map (nptr A)) := by have := h.own.mono_base hb; rw [List.take_length] at this; exact this
  have h1 := h.fr.putF hi hown (fun b hb j hj e => by have := (hdl b hb).1; have := hF.lt hj; omega) h.far (fun j hj => (hw.kid i hi j (List.mem_filter.1 hj).1).1)
  refine ⟨h1.congr2 fun z hz => ⟨rfl, rfl, ?_⟩, ?_, fun j b hj hb => ?_, fun z hz => ?_⟩
  · show _ = upd _ i _ z
    by_cases e : z = i
    · subst e; rw [upd_same]
      show (if _ then _ else _) = _
      rw [if_pos (subF_self hw hi)]
    · rw [upd_ne _ _ e]; exact (upto_all hw hi e).symm
  · refine ⟨h.up.os, h.up.tape, h.up.output, by rw [World.size_setCell]; exact h.up.size, fun b hb hA => ?_⟩
    rw [blk_setCell_other _ _ _ _ (hA i hi)]; exact h.up.block b hb hA
  · by_cases e : j = i
    · subst e; rw [upd_same] at hb; exact .inr (hdl b hb).1
    · rw [upd_ne _ _ e] at hb; exact h.new j b hj hb
  · have : z ≠ i := fun e => by subst e; rw [subF_self hw hi] at hz; cases hz
    rw [upd_ne _ _ this]; exact h.old z (.inl hz)
end
end Go.Proofs.YtcbmbhghmfehpaaGreat
namespace Go.Proofs.YtcbmbhghmfehpaaGreat
open Go.RowKit Go.Deep
theorem grown_refl (w : World) (o : Option Nat) : w.grownBy w o := ⟨rfl, rfl, rfl, Nat.le_refl _, fun _ _ _ => rfl⟩
theorem grown_trans {w w' x : World} {o : Option Nat} (h : w.grownBy w' o) (k : w'.grownBy x o) : w.grownBy x o :=
  ⟨k.os.trans h.os, k.tape.trans h.tape, k.output.trans h.output, Nat.le_trans h.size k.size, fun b hb hn => (k.block b (Nat.lt_of_lt_of_le hb h.size) hn).trans (h.block b hb hn)⟩
theorem grown_up {w w' : World} (h : Up w w') (o : Option Nat) : w.grownBy w' o := ⟨h.os, h.tape, h.output, h.size, fun b hb _ => Below.block h b hb⟩
theorem grown_set {w : World} {g o : Nat} {z : Value} : w.grownBy (w.setCell ⟨g, o, none⟩ z) (some g) :=
  ⟨rfl, rfl, rfl, by rw [World.size_setCell]; exact Nat.le_refl _, fun b _ hn => blk_setCell_other _ _ _ _ fun e => hn (by rw [e])⟩
theorem grown_sets {g : Nat} : ∀ (vs : List Value) (o : Nat) (w : World), w.grownBy (w.setCells g o vs) (some g)
  | [], _, w => grown_refl w _
  | z :: vs, o, w => by rw [World.setCells]; exact grown_trans grown_set (grown_sets vs (o + 1) _)
theorem owns_take {base : Nat} {e : TypeId} {w : World} {g n cap : Nat} {xs : List Value} (h : Owns base e w (.slice (some ⟨g, 0, none⟩) n cap) xs) {m : Nat} (hm : m ≤ n) : Owns base e w (.slice (some ⟨g, 0, none⟩) m cap) (xs.take m) := by
  obtain ⟨h1, h2⟩ := h
  rcases h2 with ⟨e1, _⟩ | ⟨g2, cap2, cur, e1, hg, hc, hn, hcm, hcs, ht⟩
  · cases e1
  · injection e1 with a1 a2 a3
    injection a1 with a1
    injection a1 with a1
    subst a1; subst a3
    have hnx : n = xs.length := a2
    have hl : (xs.take m).length = m := by rw [List.length_take]; omega
    refine ⟨by rw [Nat.mul_one], .inr ⟨g, cap, cur, by rw [hl], hg, hc, by omega, hcm, hcs, ?_⟩⟩
    rw [hl, Nat.mul_one, ← ht, List.take_take]
    congr 1; omega
theorem owns_tail {base : Nat} {e : TypeId} {w : World} {g m cap o : Nat} {xs : List Value} {z : Value} (h : Owns base e w (.slice (some ⟨g, 0, none⟩) m cap) xs) (ho : m ≤ o) : Owns base e (w.setCell ⟨g, o, none⟩ z) (.slice (some ⟨g, 0, none⟩) m cap) xs := by
  obtain ⟨h1, h2⟩ := h
  rcases h2 with ⟨e1, _⟩ | ⟨g2, cap2, cur, e1, hg, hc, hn, hcm, hcs, ht⟩
  · cases e1
  · injection e1 with a1 a2 a3
    injection a1 with a1
    injection a1 with a1
    subst a1; subst a3
    refine ⟨h1, .inr ⟨g, cap, cur.setIfInBounds o z, by rw [a2], hg, ?_, hn, hcm, by rw [Array.size_setIfInBounds]; exact hcs, ?_⟩⟩
    · simp [World.setCell, Array.getElem?_modify, hc]
    · have hmx : m = xs.length := a2
      rw [Array.toList_setIfInBounds, List.take_set_of_le (by omega)]; exact ht
theorem owns_tails {base : Nat} {e : TypeId} {g m cap : Nat} {xs : List Value} : ∀ (vs : List Value) (o : Nat) (w : World), m ≤ o → Owns base e w (.slice (some ⟨g, 0, none⟩) m cap) xs → Owns base e (w.setCells g o vs) (.slice (some ⟨g, 0, none⟩) m cap) xs
  | [], _, _, _, h => h
  | z :: vs, o, w, ho, h => by rw [World.setCells]; exact owns_tails vs (o + 1) _ (by omega) (owns_tail h ho)
theorem owns_cell {base : Nat} {e : TypeId} {w : World} {g n cap : Nat} {xs : List Value} (h : Owns base e w (.slice (some ⟨g, 0, none⟩) n cap) xs) {j : Nat} {u : Value} (hj : xs[j]? = some u) : w.cell? ⟨g, j, none⟩ = some u ∧ w.frozen? ⟨g, j, none⟩ = false := by
  have hl := (List.getElem?_eq_some_iff.1 hj).1
  obtain ⟨g2, cap2, e1, _, _, hc, hf, _⟩ := h.set hl
  injection e1 with a1
  injection a1 with a1
  injection a1 with a1
  subst a1
  refine ⟨?_, hf⟩
  rw [hc]
  congr 1
  rw [List.getD_eq_getElem?_getD, hj]; rfl
section
variable {A : Nat → Nat} {P : Nat → Bool}
end
end Go.Proofs.YtcbmbhghmfehpaaGreat
