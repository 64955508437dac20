/- The plain law of forests in which no node has two parents and no two leaves one name: their children can be sorted; the nodes below a node stand once each. What grow computes, plain; its closures. Contracts: Great of layer 35, fine, Support, Original, Significant. The contracts of parsimony.unit and Unit. -/
import Derived.Test.YtpjijbophjdgaaaGreatQ24
import Derived.Test.YtpjijbophjdgaaaGreatQ25
import Derived.Test.YtpjijbophjdgaaaGreatQ17
import Derived.Test.YtpjijbophjdgaaaGreatQ18
import Derived.Test.YtpjijbophjdgaaaGreatQ9
import Derived.Test.YtpjijbophjdgaaaGreatQ10
namespace Go.Proofs.YtpjijbophjdgaaaGreat
theorem subF_self {F : Frs} {n : Nat} {rk : Nat → Nat} (h : Wf F n rk) {i : Nat} (hi : i < n) : subF F rk i i = true := by rw [subF_eq h hi]; simp
theorem subF_kid {F : Frs} {n : Nat} {rk : Nat → Nat} (h : Wf F n rk) {i k j : Nat} (hi : i < n) (hk : k ∈ F.kids i) (hj : subF F rk k j = true) : subF F rk i j = true := by
  rw [subF_eq h hi, Bool.or_eq_true]; exact .inr (List.any_eq_true.2 ⟨k, hk, hj⟩)
theorem subF_cases {F : Frs} {n : Nat} {rk : Nat → Nat} (h : Wf F n rk) {i j : Nat} (hi : i < n) (hj : subF F rk i j = true) : j = i ∨ ∃ k ∈ F.kids i, subF F rk k j = true := by
  rw [subF_eq h hi, Bool.or_eq_true] at hj
  rcases hj with h1 | h1
  · exact .inl (by simpa using h1)
  · obtain ⟨k, hk, h2⟩ := List.any_eq_true.1 h1
    exact .inr ⟨k, hk, h2⟩
theorem subF_lt {F : Frs} {n : Nat} {rk : Nat → Nat} (h : Wf F n rk) : ∀ {d i j : Nat}, i < n → rk i ≤ d → subF F rk i j = true → j < n := by
  intro d
  induction d with
  | zero =>
    intro i j hi hd hj
    rcases subF_cases h hi hj with rfl | ⟨k, hk, h1⟩
    · exact hi
    · have := (h.kid i hi k hk).2; omega
  | succ d ih =>
    intro i j hi hd hj
    rcases subF_cases h hi hj with rfl | ⟨k, hk, h1⟩
    · exact hi
    · have := h.kid i hi k hk
      exact ih this.1 (by omega) h1
structure Arb (F : Frs) (n : Nat) (rk : Nat → Nat) : Prop where
  wf : Wf F n rk
  one : ∀ p q k, p < n → q < n → k ∈ F.kids p → k ∈ F.kids q → p = q
  nodup : ∀ i, i < n → (F.kids i).Nodup
  names : ∀ a b, a < n → b < n → F.kids a = [] → F.kids b = [] → F.nm a = F.nm b → a = b
section
variable {F : Frs} {n : Nat} {rk : Nat → Nat}
theorem sub_parent (h : Wf F n rk) : ∀ {d x j : Nat}, x < n → rk x ≤ d → subF F rk x j = true → j ≠ x → ∃ p, p < n ∧ j ∈ F.kids p ∧ subF F rk x p = true := by
  intro d
  induction d with
  | zero =>
    intro x j hx hd hj hne
    rcases subF_cases h hx hj with e | ⟨k, hk, h1⟩
    · exact absurd e hne
    · have := (h.kid x hx k hk).2; omega
  | succ d ih =>
    intro x j hx hd hj hne
    rcases subF_cases h hx hj with e | ⟨k, hk, h1⟩
    · exact absurd e hne
    · have hkk := h.kid x hx k hk
      by_cases e : j = k
      · exact ⟨x, hx, by rw [e]; exact hk, subF_self h hx⟩
      · obtain ⟨p, hp, h2, h3⟩ := ih hkk.1 (by omega) h1 e
        exact ⟨p, hp, h2, subF_kid h hx hk h3⟩
theorem sub_chain (h : Arb F n rk) {R : Nat} (hR : ∀ i, i < n → rk i ≤ R) : ∀ {m j x y : Nat}, R - rk j ≤ m → j < n → x < n → y < n → subF F rk x j = true → subF F rk y j = true → subF F rk x y = true ∨ subF F rk y x = true := by
  intro m
  induction m with
  | zero =>
    intro j x y hm hj hx hy h1 h2
    by_cases e1 : j = x
    · subst e1; exact .inr h2
    · obtain ⟨p, hp, hk, _⟩ := sub_parent h.wf hx (Nat.le_refl _) h1 e1
      have := (h.wf.kid p hp j hk).2
      have := hR p hp
      omega
  | succ m ih =>
    intro j x y hm hj hx hy h1 h2
    by_cases e1 : j = x
    · subst e1; exact .inr h2
    · by_cases e2 : j = y
      · subst e2; exact .inl h1
      · obtain ⟨p, hp, hk, h3⟩ := sub_parent h.wf hx (Nat.le_refl _) h1 e1
        obtain ⟨q, hq, hk2, h4⟩ := sub_parent h.wf hy (Nat.le_refl _) h2 e2
        obtain rfl := h.one p q j hp hq hk hk2
        have h5 := (h.wf.kid p hp j hk).2
        have h6 := hR p hp
        exact ih (by omega) hp hx hy h3 h4
theorem sub_kids (h : Arb F n rk) {R : Nat} (hR : ∀ i, i < n → rk i ≤ R) {i x y j : Nat} (hi : i < n) (hx : x ∈ F.kids i) (hy : y ∈ F.kids i) (h1 : subF F rk x j = true) (h2 : subF F rk y j = true) : x = y := by
  have hxn := h.wf.kid i hi x hx
  have hyn := h.wf.kid i hi y hy
  have hj := subF_lt h.wf hxn.1 (Nat.le_refl _) h1
  have key : ∀ {a b : Nat}, a ∈ F.kids i → b ∈ F.kids i → a < n → rk a < rk i → subF F rk a b = true → a = b := fun {a b} ha hb han har hab => by
    by_cases e : b = a
    · exact e.symm
    · obtain ⟨p, hp, hk, h3⟩ := sub_parent h.wf han (Nat.le_refl _) hab e
      obtain rfl := h.one p i b hp hi hk hb
      have := subD_rank h.wf han h3; omega
  rcases sub_chain h hR (Nat.le_refl _) hj hxn.1 hyn.1 h1 h2 with h3 | h3
  · exact key hx hy hxn.1 hxn.2 h3
  · exact (key hy hx hyn.1 hyn.2 h3).symm
theorem ls_leaf (h : Wf F n rk) : ∀ {d i : Nat}, i < n → rk i ≤ d → ∃ j, j < n ∧ subF F rk i j = true ∧ F.kids j = [] ∧ lsF F rk i = F.nm j := by
  intro d
  induction d with
  | zero =>
    intro i hi hd
    have hk : F.kids i = [] := by
      cases hk : F.kids i with
      | nil => rfl
      | cons k l => have := (h.kid i hi k (by rw [hk]; simp)).2; omega
    exact ⟨i, hi, subF_self h hi, hk, by rw [lsF_eq h hi, hk]; simp [srtBy]⟩
  | succ d ih =>
    intro i hi hd
    by_cases hk : F.kids i = []
    · exact ⟨i, hi, subF_self h hi, hk, by rw [lsF_eq h hi, hk]; simp [srtBy]⟩
    · obtain ⟨k, l, hs⟩ : ∃ k l, srtBy (lsF F rk) (F.kids i) = k :: l := by
        cases hs : srtBy (lsF F rk) (F.kids i) with
        | nil => have h1 := (srtBy_perm (lsF F rk) (F.kids i)).length_eq; rw [hs] at h1; exact absurd (List.length_eq_zero_iff.1 h1.symm) hk
        | cons k l => exact ⟨k, l, rfl⟩
      have hki : k ∈ F.kids i := (srtBy_perm (lsF F rk) _).mem_iff.1 (by rw [hs]; simp)
      have hkk := h.kid i hi k hki
      obtain ⟨j, hj, h1, h2, h3⟩ := ih hkk.1 (by omega)
      exact ⟨j, hj, subF_kid h hi hki h1, h2, by rw [lsF_eq h hi, hs]; exact h3⟩
theorem Arb.sortable (h : Arb F n rk) (hl : ∀ i, i < n → (F.kids i).length ≤ 1000) {R : Nat} (hR : ∀ i, i < n → rk i ≤ R) : Sortable F n rk := by
  refine ⟨h.wf, fun i hi x hx y hy e => ?_, h.nodup, hl⟩
  have hxn := h.wf.kid i hi x hx
  have hyn := h.wf.kid i hi y hy
  obtain ⟨a, ha, h1, h2, h3⟩ := ls_leaf h.wf hxn.1 (Nat.le_refl _)
  obtain ⟨b, hb, h4, h5, h6⟩ := ls_leaf h.wf hyn.1 (Nat.le_refl _)
  rw [h3, h6] at e
  obtain rfl := h.names a b ha hb h2 h5 e
  exact sub_kids h hR hi hx hy h1 h4
def nodesF (F : Frs) (rk : Nat → Nat) (i : Nat) : List Nat := (seqF F rk i none).map (·.1)
theorem seq_fst (h : Wf F n rk) : ∀ {d i : Nat} (p q : Option Nat), i < n → rk i ≤ d → (seqF F rk i p).map (·.1) = (seqF F rk i q).map (·.1) := by
  intro d
  cases d with
  | zero => intro i p q hi hd; rw [seqF_eq h hi, seqF_eq h hi]; rfl
  | succ d => intro i p q hi hd; rw [seqF_eq h hi, seqF_eq h hi]; rfl
theorem nodesF_eq (h : Wf F n rk) {i : Nat} (hi : i < n) : nodesF F rk i = i :: (F.kids i).flatMap fun k => nodesF F rk k := by
  unfold nodesF
  rw [seqF_eq h hi, List.map_cons, List.map_flatMap]
  congr 1
  exact flatMap_congr' fun k hk => seq_fst h _ _ (h.kid i hi k hk).1 (Nat.le_refl _)
theorem mem_nodesF (h : Wf F n rk) : ∀ {d i j : Nat}, i < n → rk i ≤ d → (j ∈ nodesF F rk i ↔ subF F rk i j = true) := by
  intro d
  induction d with
  | zero =>
    intro i j hi hd
    rw [nodesF_eq h hi, subF_eq h hi]
    have hk : F.kids i = [] := by
      cases hk : F.kids i with
      | nil => rfl
      | cons k l => have := (h.kid i hi k (by rw [hk]; simp)).2; omega
    simp [hk]
  | succ d ih =>
    intro i j hi hd
    rw [nodesF_eq h hi, subF_eq h hi]
    simp only [List.mem_cons, List.mem_flatMap, Bool.or_eq_true, beq_iff_eq, List.any_eq_true]
    constructor
    · rintro (e | ⟨k, hk, h1⟩)
      · exact .inl e
      · have := h.kid i hi k hk
        exact .inr ⟨k, hk, (ih this.1 (by omega)).1 h1⟩
    · rintro (e | ⟨k, hk, h1⟩)
      · exact .inl e
      · have := h.kid i hi k hk
        exact .inr ⟨k, hk, (ih this.1 (by omega)).2 h1⟩
theorem nodesF_nodup (h : Arb F n rk) {R : Nat} (hR : ∀ i, i < n → rk i ≤ R) : ∀ {d i : Nat}, i < n → rk i ≤ d → (nodesF F rk i).Nodup := by
  intro d
  induction d with
  | zero =>
    intro i hi hd
    rw [nodesF_eq h.wf hi]
    have hk : F.kids i = [] := by
      cases hk : F.kids i with
      | nil => rfl
      | cons k l => have := (h.wf.kid i hi k (by rw [hk]; simp)).2; omega
    simp [hk]
  | succ d ih =>
    intro i hi hd
    rw [nodesF_eq h.wf hi, List.nodup_cons]
    refine ⟨fun hm => ?_, ?_⟩
    · obtain ⟨k, hk, h1⟩ := List.mem_flatMap.1 hm
      have hkk := h.wf.kid i hi k hk
      have := subD_rank h.wf hkk.1 ((mem_nodesF h.wf hkk.1 (Nat.le_refl _)).1 h1); omega
    · have hsub : ∀ l : List Nat, l.Nodup → (∀ k ∈ l, k ∈ F.kids i) → (l.flatMap fun k => nodesF F rk k).Nodup := by
        intro l
        induction l with
        | nil => intro _ _; simp
        | cons x l ihl =>
          intro hn hin
          obtain ⟨hx, hl⟩ := List.nodup_cons.1 hn
          have hxx := h.wf.kid i hi x (hin x (by simp))
          rw [List.flatMap_cons, List.nodup_append]
          refine ⟨ih hxx.1 (by omega), ihl hl (fun k hk => hin k (by simp [hk])), fun a ha b hb e => ?_⟩
          subst e
          obtain ⟨y, hy, h2⟩ := List.mem_flatMap.1 hb
          have hyy := h.wf.kid i hi y (hin y (by simp [hy]))
          have := sub_kids h hR hi (hin x (by simp)) (hin y (by simp [hy])) ((mem_nodesF h.wf hxx.1 (Nat.le_refl _)).1 ha) ((mem_nodesF h.wf hyy.1 (Nat.le_refl _)).1 h2)
          subst this; exact hx hy
      exact hsub _ (h.nodup i hi) (fun k hk => hk)
theorem nodup_le {l : List Nat} {n : Nat} (h : l.Nodup) (hl : ∀ x ∈ l, x < n) : l.length ≤ n := by
  have h1 : l ⊆ List.range n := fun x hx => List.mem_range.2 (hl x hx)
  have := h.length_le_of_subset h1
  simpa using this
theorem seq_len (h : Arb F n rk) {R : Nat} (hR : ∀ i, i < n → rk i ≤ R) {i : Nat} (hi : i < n) (p : Option Nat) : (seqF F rk i p).length ≤ n := by
  have h1 : (seqF F rk i p).length = (nodesF F rk i).length := by
    have := congrArg List.length (seq_fst h.wf p none hi (Nat.le_refl _))
    simpa [nodesF] using this
  rw [h1]
  exact nodup_le (nodesF_nodup h hR hi (Nat.le_refl _)) (fun x hx => subF_lt h.wf hi (Nat.le_refl _) ((mem_nodesF h.wf hi (Nat.le_refl _)).1 hx))
theorem Arb.srt (h : Arb F n rk) (p : Nat → Bool) : Arb (F.srt rk p) n rk :=
  ⟨⟨fun i hi k hk => h.wf.kid i hi k ((F.srt_perm rk p i).mem_iff.1 hk)⟩, fun a b k ha hb h1 h2 => h.one a b k ha hb ((F.srt_perm rk p a).mem_iff.1 h1) ((F.srt_perm rk p b).mem_iff.1 h2), fun i hi => (F.srt_perm rk p i).symm.nodup_iff.1 (h.nodup i hi),
    fun a b ha hb h1 h2 e => h.names a b ha hb (List.perm_nil.1 (by rw [← h1]; exact (F.srt_perm rk p a).symm)) (List.perm_nil.1 (by rw [← h2]; exact (F.srt_perm rk p b).symm)) e⟩
end
def rkT (t : Tre) (i : Nat) : Nat := t.ps.length - i
theorem frT_kids (t : Tre) (i : Nat) : (frT t).kids i = kidsL t.ps i := rfl
theorem frT_arb {t : Tre} (h : treeErr t = 0) : Arb (frT t) t.ps.length (rkT t) := by
  obtain ⟨hp, _, hn, hok, he⟩ := treeErr_zero h
  refine ⟨⟨fun i hi k hk => ?_⟩, fun p q k _ _ h1 h2 => ?_, fun i _ => ?_, fun a b ha hb h1 h2 e => ?_⟩
  · obtain ⟨h1, h2, _⟩ := mem_kidsL.1 hk
    exact ⟨h1, by unfold rkT; omega⟩
  · obtain ⟨_, _, h3⟩ := mem_kidsL.1 h1
    obtain ⟨_, _, h4⟩ := mem_kidsL.1 h2
    omega
  · exact List.Pairwise.filter _ List.nodup_range
  · have leaf : ∀ i, i < t.ps.length → kidsL t.ps i = [] → isIn t.ps i = false := fun i hi hk => by
      cases hin : isIn t.ps i with
      | false => rfl
      | true => exact absurd hk ((kids_isIn hok i).2 hin)
    have e : gs t.ns a = gs t.ns b := e
    rcases Nat.lt_trichotomy a b with hab | hab | hab
    · have h3 := (leaf_named h hb (leaf b hb h2)).2
      have := any_false h3 hab
      simp [e] at this
    · exact hab
    · have h3 := (leaf_named h ha (leaf a ha h1)).2
      have := any_false h3 hab
      simp [e] at this
theorem rkT_le (t : Tre) (i : Nat) : rkT t i ≤ t.ps.length := Nat.sub_le _ _
end Go.Proofs.YtpjijbophjdgaaaGreat
namespace Go.Proofs.YtpjijbophjdgaaaGreat
open Go.RowKit Go.Shelf Go.Deep
def U64 (x : Nat) : Prop := x < 18446744073709551616
def midB (x y z : Nat) : Bool := decide (z ≠ x) && decide (z ≠ y) && withinB z x && withinB y z
def isKid (inner : List Nat) (x y : Nat) : Bool := decide (y ≠ x) && withinB y x && !((List.range inner.length).any fun j => midB x y (gn inner j))
def minus (a b : Nat) : Nat := a &&& (18446744073709551615 - b)
def leafK (names : List ByteArray) (left : Nat) (own : Int) : Nat → Tre → Tre
  | 0, t => t
  | s + 1, t => if left.testBit s then (leafK names left own s t).push own (gs names s) else leafK names left own s t
def kidF (g : Nat → Int → Tre → Tre) (inner : List Nat) (x : Nat) (own : Int) : Nat → Nat × Tre → Nat × Tre
  | 0, r => r
  | k + 1, r => if isKid inner x (gn inner k) then (minus (kidF g inner x own k r).1 (gn inner k), g (gn inner k) own (kidF g inner x own k r).2) else kidF g inner x own k r
def growF (names : List ByteArray) (inner : List Nat) : Nat → Nat → Int → Tre → Tre
  | 0, _, _, t => t
  | d + 1, x, par, t => leafK names (kidF (growF names inner d) inner x (t.ps.length : Int) inner.length (x, t.push par ByteArray.empty)).1 (t.ps.length : Int) names.length
      (kidF (growF names inner d) inner x (t.ps.length : Int) inner.length (x, t.push par ByteArray.empty)).2
theorem push_len (t : Tre) (p : Int) (s : ByteArray) : (t.push p s).ps.length = t.ps.length + 1 ∧ (t.push p s).ns.length = t.ns.length + 1 := by simp [Tre.push]
theorem leafK_len (names : List ByteArray) (left : Nat) (own : Int) : ∀ (s : Nat) (t : Tre), t.ps.length ≤ (leafK names left own s t).ps.length ∧ ((leafK names left own s t).ps.length - t.ps.length = (leafK names left own s t).ns.length - t.ns.length ∧ t.ns.length ≤ (leafK names left own s t).ns.length)
  | 0, t => ⟨Nat.le_refl _, by simp [leafK], Nat.le_refl _⟩
  | s + 1, t => by
    have ih := leafK_len names left own s t
    unfold leafK
    split
    · have := push_len (leafK names left own s t) own (gs names s); omega
    · exact ih
theorem leafK_mono (names : List ByteArray) (left : Nat) (own : Int) (t : Tre) {s : Nat} : ∀ {n : Nat}, s ≤ n → (leafK names left own s t).ps.length ≤ (leafK names left own n t).ps.length
  | 0, h => by obtain rfl : s = 0 := by omega
               exact Nat.le_refl _
  | n + 1, h => by
    by_cases e : s = n + 1
    · subst e; exact Nat.le_refl _
    · have ih := leafK_mono names left own t (s := s) (n := n) (by omega)
      have h2 : (leafK names left own (n + 1) t).ps.length = (leafK names left own n t).ps.length ∨ (leafK names left own (n + 1) t).ps.length = (leafK names left own n t).ps.length + 1 := by
        rw [show leafK names left own (n + 1) t = if left.testBit n then (leafK names left own n t).push own (gs names n) else leafK names left own n t from rfl]
        split
        · exact .inr (push_len _ _ _).1
        · exact .inl rfl
      omega
def Grows (g : Nat → Int → Tre → Tre) : Prop := ∀ x p t, t.ps.length ≤ (g x p t).ps.length
theorem kidF_step_len {g : Nat → Int → Tre → Tre} (hg : Grows g) (inner : List Nat) (x : Nat) (own : Int) (k : Nat) (r : Nat × Tre) : (kidF g inner x own k r).2.ps.length ≤ (kidF g inner x own (k + 1) r).2.ps.length := by
  show _ ≤ (if isKid inner x (gn inner k) then _ else _ : Nat × Tre).2.ps.length
  split
  · exact hg _ _ _
  · exact Nat.le_refl _
theorem kidF_mono {g : Nat → Int → Tre → Tre} (hg : Grows g) (inner : List Nat) (x : Nat) (own : Int) (r : Nat × Tre) {s : Nat} : ∀ {n : Nat}, s ≤ n → (kidF g inner x own s r).2.ps.length ≤ (kidF g inner x own n r).2.ps.length
  | 0, h => by obtain rfl : s = 0 := by omega
               exact Nat.le_refl _
  | n + 1, h => by
    by_cases e : s = n + 1
    · subst e; exact Nat.le_refl _
    · exact Nat.le_trans (kidF_mono hg inner x own r (s := s) (n := n) (by omega)) (kidF_step_len hg inner x own n r)
theorem growF_len (names : List ByteArray) (inner : List Nat) : ∀ d, Grows (growF names inner d)
  | 0, _, _, _ => Nat.le_refl _
  | d + 1, x, p, t => by
    have ih := growF_len names inner d
    have h1 := kidF_mono ih inner x (t.ps.length : Int) (x, t.push p ByteArray.empty) (Nat.zero_le inner.length)
    have h2 := (leafK_len names (kidF (growF names inner d) inner x (t.ps.length : Int) inner.length (x, t.push p ByteArray.empty)).1 (t.ps.length : Int) names.length (kidF (growF names inner d) inner x (t.ps.length : Int) inner.length (x, t.push p ByteArray.empty)).2).1
    have h3 := (push_len t p ByteArray.empty).1
    have h4 : (kidF (growF names inner d) inner x (t.ps.length : Int) 0 (x, t.push p ByteArray.empty)).2 = t.push p ByteArray.empty := rfl
    rw [h4] at h1
    show _ ≤ (leafK _ _ _ _ _).ps.length
    omega
theorem minus_lt {a : Nat} (h : U64 a) (b : Nat) : U64 (minus a b) := Nat.lt_of_le_of_lt Nat.and_le_left h
theorem kidF_u64 (g : Nat → Int → Tre → Tre) (inner : List Nat) (x : Nat) (own : Int) {r : Nat × Tre} (h : U64 r.1) : ∀ k, U64 (kidF g inner x own k r).1
  | 0 => h
  | k + 1 => by
    show U64 (if isKid inner x (gn inner k) then _ else _ : Nat × Tre).1
    split
    · exact minus_lt (kidF_u64 g inner x own h k) _
    · exact kidF_u64 g inner x own h k
set_option maxRecDepth 100000 in
set_option maxHeartbeats 1000000 in
theorem mid_t (w : World) (x y z xb yb : Nat) (hx : U64 x) (hy : U64 y) (hz : U64 z) (h1 : w.cell? ⟨xb, 0, none⟩ = some (.int .u64 x)) (h2 : w.cell? ⟨yb, 0, none⟩ = some (.int .u64 y)) :
    FnIs 80 #[.pointer (some ⟨xb, 0, none⟩), .pointer (some ⟨yb, 0, none⟩)] #[.int .u64 z] (.bool (midB x y z)) w := by
  unfold FnIs
  show Calls Tryz.prog 80 #[.int .u64 z, .pointer (some ⟨xb, 0, none⟩), .pointer (some ⟨yb, 0, none⟩)] w _
  have HM : Hid (midB x y z = (decide (z ≠ x) && decide (z ≠ y) && withinB z x && withinB y z)) := rfl
  have HW1 := Lib.hid (within_t z x hz hx w)
  have HW2 := Lib.hid (within_t y z hy hz w)
  clear hx hy hz
  generalize withinB z x = b1 at *
  generalize withinB y z = b2 at *
  by_cases e1 : z = x
  · have d1 : ((z : Int) != (x : Int)) = false := by simp [e1]
    have HR : Hid (midB x y z = false) := by unfold Hid; rw [HM.out, decide_eq_false (not_not_intro e1)]; rfl
    clear e1
    go_enter Tryz.func80, Tryz.ntmps80
    go_wp2_with fail
    go_ret
    exact ⟨ret_bool HR.out.symm, rfl⟩
  · have d1 : ((z : Int) != (x : Int)) = true := by simp; omega
    by_cases e2 : z = y
    · have d2 : ((z : Int) != (y : Int)) = false := by simp [e2]
      have HR : Hid (midB x y z = false) := by unfold Hid; rw [HM.out, decide_eq_false (not_not_intro e2)]; simp
      clear e2 e1
      go_enter Tryz.func80, Tryz.ntmps80
      go_wp2_with fail
      go_ret
      exact ⟨ret_bool HR.out.symm, rfl⟩
    · have d2 : ((z : Int) != (y : Int)) = true := by simp; omega
      have HR : Hid (midB x y z = (b1 && b2)) := by unfold Hid; rw [HM.out, decide_eq_true e1, decide_eq_true e2]; rfl
      clear e1 e2
      cases b1
      · go_enter Tryz.func80, Tryz.ntmps80
        go_wp2_with (first | (refine HW1.out.mono ?_; rintro e w' ⟨rfl, rfl⟩) | (refine HW2.out.mono ?_; rintro e w' ⟨rfl, rfl⟩))
        go_ret
        exact ⟨ret_bool (by rw [HR.out]; rfl), rfl⟩
      · go_enter Tryz.func80, Tryz.ntmps80
        go_wp2_with (first | (refine HW1.out.mono ?_; rintro e w' ⟨rfl, rfl⟩) | (refine HW2.out.mono ?_; rintro e w' ⟨rfl, rfl⟩))
        go_ret
        exact ⟨ret_bool (by rw [HR.out]; rfl), rfl⟩
end Go.Proofs.YtpjijbophjdgaaaGreat
namespace Go.Proofs.YtpjijbophjdgaaaGreat
open Go.RowKit Go.Deep
end Go.Proofs.YtpjijbophjdgaaaGreat
namespace Go.Proofs.YtpjijbophjdgaaaGreat
open Go.RowKit Go.Deep
end Go.Proofs.YtpjijbophjdgaaaGreat
