/- The sets that layer 35's reference makes a tree of, and that tree: plain. The tree that layer 35's reference makes of the sets is, sorted, the program's tree: plain. Trees whose nodes stand for nested sets of names: valid, without one-child nodes; their parts. Plain. -/
import Derived.Test.YtcbmbhghmfehpaaGreatQ15
import Derived.Test.YtcbmbhghmfehpaaGreatQ16
namespace Go.Proofs.YtcbmbhghmfehpaaGreat
def allI (n : Nat) : List Int := (List.range n).map fun (i : Nat) => (i : Int)
theorem mem_allI {n : Nat} {x : Int} : x ∈ allI n ↔ 0 ≤ x ∧ x < n := by
  unfold allI
  rw [List.mem_map]
  constructor
  · rintro ⟨i, hi, rfl⟩
    have := List.mem_range.1 hi; omega
  · rintro ⟨h0, h1⟩
    exact ⟨x.toNat, List.mem_range.2 (by omega), by omega⟩
theorem allI_len (n : Nat) : (allI n).length = n := by unfold allI; rw [List.length_map, List.length_range]
def knB (c : Bool) (S : List (List Int)) (s : List Int) : Nat → Bool
  | 0 => c
  | k + 1 => knB c S s k || decide (gl S k = s)
def stI (l : List Grp) (S : List (List Int)) (size : Nat) : Nat → List (List Int)
  | 0 => S
  | i + 1 => if knB (decide ((gg l i).src.length ≠ size)) (stI l S size i) (gg l i).src (stI l S size i).length then stI l S size i else stI l S size i ++ [(gg l i).src]
def stZ (n : Nat) (l : List Grp) : Nat → List (List Int)
  | 0 => [allI n]
  | k + 1 => stI l (stZ n l k) (n - 1 - k) l.length
def setsL (n : Nat) (l : List Grp) : List (List Int) := if 1 < n then stZ n l (n - 2) ++ (List.range n).map (fun (i : Nat) => [(i : Int)]) else stZ n l (n - 2)
def parI (S : List (List Int)) (i : Nat) : Nat → Int
  | 0 => -1
  | k + 1 => if comK (gl S i) (gl S k) (gl S i).length = (gl S i).length then (k : Int) else parI S i k
def nmI (names : List ByteArray) (x : List Int) : ByteArray := if x.length = 1 then gs names (gi x 0).toNat else ByteArray.empty
def setT (names : List ByteArray) (S : List (List Int)) : Tre := ⟨(List.range S.length).map fun i => parI S i i, S.map (nmI names)⟩
theorem gl_mem {S : List (List Int)} {k : Nat} (h : k < S.length) : gl S k ∈ S := by simp [gl, h]
theorem gl_ex {S : List (List Int)} {x : List Int} (h : x ∈ S) : ∃ k, k < S.length ∧ gl S k = x := by
  obtain ⟨k, hk, e⟩ := List.getElem_of_mem h
  exact ⟨k, hk, by simp [gl, hk, e]⟩
theorem knB_iff {c : Bool} {S : List (List Int)} {s : List Int} : ∀ k, knB c S s k = true ↔ c = true ∨ ∃ j, j < k ∧ gl S j = s
  | 0 => by simp [knB]
  | k + 1 => by
    rw [knB, Bool.or_eq_true, decide_eq_true_eq, knB_iff k]
    constructor
    · rintro ((h | ⟨j, h, e⟩) | h)
      · exact .inl h
      · exact .inr ⟨j, by omega, e⟩
      · exact .inr ⟨k, by omega, h⟩
    · rintro (h | ⟨j, h, e⟩)
      · exact .inl (.inl h)
      · by_cases c : j = k
        · subst c; exact .inr e
        · exact .inl (.inr ⟨j, by omega, e⟩)
theorem knB_all {S : List (List Int)} {s : List Int} {size : Nat} : knB (decide (s.length ≠ size)) S s S.length = true ↔ s.length ≠ size ∨ s ∈ S := by
  rw [knB_iff, decide_eq_true_eq]
  constructor
  · rintro (h | ⟨j, h, rfl⟩)
    · exact .inl h
    · exact .inr (gl_mem h)
  · rintro (h | h)
    · exact .inl h
    · exact .inr (gl_ex h)
theorem mem_stI {l : List Grp} {S : List (List Int)} {size : Nat} {x : List Int} : ∀ k, x ∈ stI l S size k ↔ x ∈ S ∨ ∃ i, i < k ∧ (gg l i).src = x ∧ x.length = size
  | 0 => by simp [stI]
  | k + 1 => by
    rw [stI]
    have ih := mem_stI (l := l) (S := S) (size := size) (x := x) k
    have hk := knB_all (S := stI l S size k) (s := (gg l k).src) (size := size)
    by_cases h : knB (decide ((gg l k).src.length ≠ size)) (stI l S size k) (gg l k).src (stI l S size k).length = true
    · rw [if_pos h, ih]
      constructor
      · rintro (q | ⟨i, hi, e⟩)
        · exact .inl q
        · exact .inr ⟨i, by omega, e⟩
      · rintro (q | ⟨i, hi, e, e2⟩)
        · exact .inl q
        · by_cases c : i = k
          · subst c
            rcases hk.1 h with q | q
            · rw [e] at q; exact absurd e2 q
            · rw [e] at q; exact ih.1 q
          · exact .inr ⟨i, by omega, e, e2⟩
    · rw [if_neg h, List.mem_append, ih, List.mem_singleton]
      constructor
      · rintro ((q | ⟨i, hi, e⟩) | q)
        · exact .inl q
        · exact .inr ⟨i, by omega, e⟩
        · refine .inr ⟨k, by omega, q.symm, ?_⟩
          rw [q]
          exact Classical.byContradiction fun c => h (hk.2 (.inl c))
      · rintro (q | ⟨i, hi, e, e2⟩)
        · exact .inl (.inl q)
        · by_cases c : i = k
          · subst c; exact .inr e.symm
          · exact .inl (.inr ⟨i, by omega, e, e2⟩)
theorem stI_ord {l : List Grp} {S : List (List Int)} {size : Nat} (hn : S.Nodup) (ho : S.Pairwise fun a b => b.length ≤ a.length) (hs : ∀ x ∈ S, size ≤ x.length) :
    ∀ k, (stI l S size k).Nodup ∧ (stI l S size k).Pairwise fun a b => b.length ≤ a.length
  | 0 => ⟨hn, ho⟩
  | k + 1 => by
    obtain ⟨h1, h2⟩ := stI_ord (l := l) hn ho hs k
    rw [stI]
    have hk := knB_all (S := stI l S size k) (s := (gg l k).src) (size := size)
    by_cases h : knB (decide ((gg l k).src.length ≠ size)) (stI l S size k) (gg l k).src (stI l S size k).length = true
    · rw [if_pos h]; exact ⟨h1, h2⟩
    · rw [if_neg h]
      have e1 : (gg l k).src.length = size := Classical.byContradiction fun c => h (hk.2 (.inl c))
      have e2 : (gg l k).src ∉ stI l S size k := fun c => h (hk.2 (.inr c))
      refine ⟨List.nodup_append.2 ⟨h1, by simp, fun a ha b hb e => ?_⟩, List.pairwise_append.2 ⟨h2, by simp, fun a ha b hb => ?_⟩⟩
      · rw [List.mem_singleton] at hb; subst hb; subst e; exact e2 ha
      · rw [List.mem_singleton] at hb; subst hb; rw [e1]
        rcases (mem_stI k).1 ha with q | ⟨i, _, _, q⟩
        · exact hs a q
        · omega
theorem stZ_ord {n : Nat} {l : List Grp} (h2 : 2 ≤ n) : ∀ k, k ≤ n - 2 → (stZ n l k).Nodup ∧ ((stZ n l k).Pairwise fun a b => b.length ≤ a.length) ∧ ∀ x, x ∈ stZ n l k ↔ x = allI n ∨ ∃ i, i < l.length ∧ (gg l i).src = x ∧ n - k ≤ x.length ∧ x.length < n
  | 0, _ => by
    refine ⟨by simp [stZ], by simp [stZ], fun x => ?_⟩
    rw [stZ, List.mem_singleton]
    exact ⟨.inl, fun h => h.resolve_right fun ⟨_, _, _, _, _⟩ => by omega⟩
  | k + 1, hk => by
    obtain ⟨h1, h3, h4⟩ := stZ_ord (l := l) h2 k (by omega)
    have h5 : ∀ x ∈ stZ n l k, n - 1 - k ≤ x.length := fun x hx => by
      rcases (h4 x).1 hx with rfl | ⟨_, _, _, _, _⟩
      · rw [allI_len]; omega
      · omega
    obtain ⟨g1, g2⟩ := stI_ord (l := l) h1 h3 h5 l.length
    refine ⟨g1, g2, fun x => ?_⟩
    rw [stZ, mem_stI, h4]
    constructor
    · rintro ((e | ⟨i, a, b, c, d⟩) | ⟨i, a, b, c⟩)
      · exact .inl e
      · exact .inr ⟨i, a, b, by omega, d⟩
      · exact .inr ⟨i, a, b, by omega, by omega⟩
    · rintro (e | ⟨i, a, b, c, d⟩)
      · exact .inl (.inl e)
      · by_cases q : n - k ≤ x.length
        · exact .inl (.inr ⟨i, a, b, q, d⟩)
        · exact .inr ⟨i, a, b, by omega⟩
structure SetsOk (n : Nat) (S : List (List Int)) : Prop where
  asc : ∀ x ∈ S, x.Pairwise (· < ·) ∧ x ≠ [] ∧ ∀ y ∈ x, 0 ≤ y ∧ y < (n : Int)
  lam : ∀ x ∈ S, ∀ y ∈ S, (∀ z ∈ x, z ∈ y) ∨ (∀ z ∈ y, z ∈ x) ∨ ∀ z ∈ x, z ∉ y
  nd : S.Nodup
  ord : S.Pairwise fun a b => b.length ≤ a.length
  pos : 0 < S.length
  top : gl S 0 = allI n
  sing : ∀ i, i < n → [(i : Int)] ∈ S
theorem asc_eq {x y : List Int} (hx : x.Pairwise (· < ·)) (hy : y.Pairwise (· < ·)) (h1 : ∀ z ∈ x, z ∈ y) (h2 : ∀ z ∈ y, z ∈ x) : x = y := by
  have nd : ∀ {q : List Int}, q.Pairwise (· < ·) → q.Nodup := fun h => h.imp fun h => by omega
  have hp : x.Perm y := (List.perm_ext_iff_of_nodup (nd hx) (nd hy)).2 fun z => ⟨h1 z, h2 z⟩
  exact List.Perm.eq_of_pairwise (le := fun a b : Int => a < b) (fun a b _ _ h1 h2 => by omega) hx hy hp
theorem perm_subI : ∀ {p q : List Int}, p.Nodup → (∀ x ∈ p, x ∈ q) → q.length ≤ p.length → p.Perm q
  | [], q, _, _, h => by
    have : q = [] := List.eq_nil_of_length_eq_zero (by simpa using h)
    rw [this]
  | x :: p, q, hn, hs, hl => by
    rw [List.nodup_cons] at hn
    have hx := hs x (by simp)
    obtain ⟨a, b, rfl⟩ := List.append_of_mem hx
    have h1 : p.Perm (a ++ b) := perm_subI hn.2 (fun y hy => by
      have h2 := hs y (by simp [hy])
      rw [List.mem_append, List.mem_cons] at h2
      rw [List.mem_append]
      rcases h2 with h2 | h2 | h2
      · exact .inl h2
      · exact absurd (by rw [← h2]; exact hy) hn.1
      · exact .inr h2) (by
      rw [List.length_append, List.length_cons, List.length_cons] at hl
      rw [List.length_append]; omega)
    exact (h1.cons x).trans List.perm_middle.symm
theorem com_sub {a b : List Int} : comK a b a.length = a.length ↔ ∀ x ∈ a, x ∈ b := by
  have key : ∀ k, k ≤ a.length → (comK a b k = k ↔ ∀ j, j < k → gi a j ∈ b) := by
    intro k
    induction k with
    | zero => intro _; exact ⟨fun _ j hj => by omega, fun _ => rfl⟩
    | succ k ih =>
      intro hk
      have h1 := ih (by omega)
      have h2 := comK_le a b k
      rw [comK]
      constructor
      · intro h j hj
        by_cases c : gi a k ∈ b
        · rw [if_pos c] at h
          by_cases e : j = k
          · subst e; exact c
          · exact h1.1 (by omega) j (by omega)
        · rw [if_neg c] at h; omega
      · intro h
        rw [if_pos (h k (by omega)), h1.2 fun j hj => h j (by omega)]
  rw [key _ (Nat.le_refl _)]
  constructor
  · intro h x hx
    obtain ⟨j, hj, e⟩ := List.getElem_of_mem hx
    have := h j hj
    rw [show gi a j = x by simp [gi, hj, e]] at this
    exact this
  · intro h j hj; exact h _ (gi_mem hj)
section
variable {n : Nat} {S : List (List Int)}
def SubAt (S : List (List Int)) (i j : Nat) : Prop := ∀ x ∈ gl S i, x ∈ gl S j
theorem SetsOk.at_eq (h : SetsOk n S) {i j : Nat} (hi : i < S.length) (hj : j < S.length) (e : gl S i = gl S j) : i = j := by
  have hn := List.pairwise_iff_getElem.1 h.nd
  have e1 : S[i] = S[j] := by simpa [gl, hi, hj] using e
  rcases Nat.lt_trichotomy i j with c | c | c
  · exact absurd e1 (hn i j hi hj c)
  · exact c
  · exact absurd e1.symm (hn j i hj hi c)
theorem SetsOk.eq_of (h : SetsOk n S) {i j : Nat} (hi : i < S.length) (hj : j < S.length) (h1 : SubAt S i j) (h2 : SubAt S j i) : i = j :=
  h.at_eq hi hj (asc_eq (h.asc _ (gl_mem hi)).1 (h.asc _ (gl_mem hj)).1 h1 h2)
theorem SetsOk.le_len (h : SetsOk n S) {i j : Nat} (hj : j < S.length) (hij : i < j) : (gl S j).length ≤ (gl S i).length := by
  have hi : i < S.length := by omega
  have := List.pairwise_iff_getElem.1 h.ord i j hi hj hij
  simpa [gl, hi, hj] using this
theorem SetsOk.lt_of (h : SetsOk n S) {i j : Nat} (hi : i < S.length) (hj : j < S.length) (h1 : SubAt S j i) (hne : i ≠ j) : i < j := by
  apply Classical.byContradiction
  intro c
  have hji : j < i := by omega
  have hl := h.le_len hi hji
  have nd : (gl S j).Nodup := (h.asc _ (gl_mem hj)).1.imp fun h => by omega
  have hp := perm_subI nd h1 hl
  exact hne (h.eq_of hi hj (fun x hx => hp.mem_iff.2 hx) h1)
theorem SetsOk.sub_top (h : SetsOk n S) {i : Nat} (hi : i < S.length) : SubAt S i 0 := fun x hx => by
  rw [h.top, mem_allI]; exact (h.asc _ (gl_mem hi)).2.2 x hx
theorem parI_spec (S : List (List Int)) (i : Nat) : ∀ k, (parI S i k = -1 ∧ ∀ j, j < k → ¬ SubAt S i j) ∨ ∃ p, p < k ∧ parI S i k = (p : Int) ∧ SubAt S i p ∧ ∀ j, p < j → j < k → ¬ SubAt S i j
  | 0 => .inl ⟨rfl, fun j hj => by omega⟩
  | k + 1 => by
    rw [parI]
    by_cases c : SubAt S i k
    · rw [if_pos (com_sub.2 c)]
      exact .inr ⟨k, by omega, rfl, c, fun j h1 h2 => by omega⟩
    · rw [if_neg fun q => c (com_sub.1 q)]
      rcases parI_spec S i k with ⟨e, h⟩ | ⟨p, h1, h2, h3, h4⟩
      · refine .inl ⟨e, fun j hj => ?_⟩
        by_cases q : j = k
        · subst q; exact c
        · exact h j (by omega)
      · refine .inr ⟨p, by omega, h2, h3, fun j hj1 hj2 => ?_⟩
        by_cases q : j = k
        · subst q; exact c
        · exact h4 j hj1 (by omega)
theorem SetsOk.par (h : SetsOk n S) {i : Nat} (hi : i < S.length) (h0 : 0 < i) : ∃ p, p < i ∧ parI S i i = (p : Int) ∧ SubAt S i p ∧ ∀ j, j < S.length → j ≠ i → SubAt S i j → j ≤ p := by
  rcases parI_spec S i i with ⟨_, q⟩ | ⟨p, h1, h2, h3, h4⟩
  · exact absurd (h.sub_top hi) (q 0 h0)
  · refine ⟨p, h1, h2, h3, fun j hj hne hs => ?_⟩
    have := h.lt_of hj hi hs hne
    exact Classical.byContradiction fun c => h4 j (by omega) this hs
theorem SetsOk.meet (h : SetsOk n S) {i : Nat} (hi : i < S.length) : ∃ x, x ∈ gl S i := List.exists_mem_of_ne_nil _ (h.asc _ (gl_mem hi)).2.1
/-- A set within another, and not it, lies within a child of it. -/
theorem SetsOk.kid (h : SetsOk n S) {i : Nat} (hi : i < S.length) : ∀ (d p : Nat), p ≤ d → p < S.length → p ≠ i → SubAt S p i → ∃ c, c < S.length ∧ i < c ∧ parI S c c = (i : Int) ∧ SubAt S p c
  | 0, p, hd, hp, hne, hs => by have := h.lt_of hi hp hs (Ne.symm hne); omega
  | d + 1, p, hd, hp, hne, hs => by
    have hlt := h.lt_of hi hp hs (Ne.symm hne)
    obtain ⟨q, q1, q2, q3, q4⟩ := h.par hp (by omega)
    by_cases c : q = i
    · subst c; exact ⟨p, hp, hlt, q2, fun x hx => hx⟩
    · have hiq := q4 i hi (by omega) hs
      have hqi : SubAt S q i := by
        obtain ⟨x, hx⟩ := h.meet hp
        rcases h.lam _ (gl_mem (show q < S.length by omega)) _ (gl_mem hi) with e | e | e
        · exact e
        · have := h.lt_of (show q < S.length by omega) hi e c
          omega
        · exact absurd (hs x hx) (e x (q3 x hx))
      obtain ⟨k, k1, k2, k3, k4⟩ := SetsOk.kid h hi d q (by omega) (by omega) c hqi
      exact ⟨k, k1, k2, k3, fun x hx => k4 x (q3 x hx)⟩
/-- Each source of a greater set lies in a child. -/
theorem SetsOk.kid_of (h : SetsOk n S) {i : Nat} (hi : i < S.length) (h2 : (gl S i).length ≠ 1) {x : Int} (hx : x ∈ gl S i) : ∃ c, c < S.length ∧ i < c ∧ parI S c c = (i : Int) ∧ x ∈ gl S c := by
  obtain ⟨x0, xn⟩ := (h.asc _ (gl_mem hi)).2.2 x hx
  obtain ⟨k, rfl⟩ : ∃ k : Nat, x = k := ⟨x.toNat, by omega⟩
  obtain ⟨p, hp, e⟩ := gl_ex (h.sing k (by omega))
  have hne : p ≠ i := fun q => by subst q; rw [e] at h2; exact h2 rfl
  obtain ⟨c, c1, c2, c3, c4⟩ := h.kid hi p p (Nat.le_refl _) hp hne (fun y hy => by rw [e, List.mem_singleton] at hy; subst hy; exact hx)
  exact ⟨c, c1, c2, c3, c4 _ (by rw [e]; simp)⟩
theorem SetsOk.kid_sub (h : SetsOk n S) {i c : Nat} (hc : c < S.length) (h0 : 0 < c) (e : parI S c c = (i : Int)) : SubAt S c i ∧ i < c := by
  obtain ⟨p, p1, p2, p3, _⟩ := h.par hc h0
  rw [e] at p2
  have : i = p := by omega
  subst this; exact ⟨p3, p1⟩
end
end Go.Proofs.YtcbmbhghmfehpaaGreat
namespace Go.Proofs.YtcbmbhghmfehpaaGreat
section
variable {names : List ByteArray} {l : List Grp} {S : List (List Int)}
theorem set_len (names : List ByteArray) (S : List (List Int)) : (setT names S).ps.length = S.length := by simp [setT]
theorem set_ps {i : Nat} (hi : i < S.length) : gi (setT names S).ps i = parI S i i := by simp [setT, gi, hi]
theorem set_ns {i : Nat} (hi : i < S.length) : gs (setT names S).ns i = nmI names (gl S i) := by simp [setT, gs, gl, hi]
theorem SetsOk.inn (h : SetsOk names.length S) {i : Nat} (hi : i < S.length) : isIn (setT names S).ps i = true ↔ (gl S i).length ≠ 1 := by
  unfold isIn inK
  rw [List.any_eq_true, set_len]
  constructor
  · rintro ⟨c, hc, e⟩ h1
    have hc := List.mem_range.1 hc
    rw [Bool.and_eq_true, decide_eq_true_eq, beq_iff_eq, set_ps hc] at e
    obtain ⟨s1, s2⟩ := h.kid_sub hc e.1 e.2
    obtain ⟨b, hb⟩ := List.length_eq_one_iff.1 h1
    obtain ⟨z, hz⟩ := h.meet hc
    have hzb := s1 z hz
    rw [hb, List.mem_singleton] at hzb
    have := h.eq_of hi hc (fun x hx => by rw [hb, List.mem_singleton] at hx; rw [hx, ← hzb]; exact hz) s1
    omega
  · intro h1
    obtain ⟨x, hx⟩ := h.meet hi
    obtain ⟨c, c1, c2, c3, _⟩ := h.kid_of hi h1 hx
    exact ⟨c, List.mem_range.2 c1, by rw [set_ps c1, c3]; simp; omega⟩
theorem SetsOk.one (h : SetsOk names.length S) {i : Nat} (hi : i < S.length) (h1 : (gl S i).length = 1) : ∃ b : Nat, b < names.length ∧ gl S i = [(b : Int)] ∧ gs (setT names S).ns i = gs names b := by
  obtain ⟨x, hx⟩ := List.length_eq_one_iff.1 h1
  obtain ⟨x0, xn⟩ := (h.asc _ (gl_mem hi)).2.2 x (by rw [hx]; simp)
  refine ⟨x.toNat, by omega, by rw [hx]; congr 1; omega, ?_⟩
  rw [set_ns hi, nmI, if_pos h1, hx]; rfl
theorem SetsOk.big (_h : SetsOk names.length S) {i : Nat} (hi : i < S.length) (h1 : (gl S i).length ≠ 1) : (gs (setT names S).ns i).size = 0 := by
  rw [set_ns hi, nmI, if_neg h1]; rfl
theorem SetsOk.pok (h : SetsOk names.length S) : pOkB (setT names S).ps = true := by
  unfold pOkB
  rw [List.all_eq_true]
  intro i hi
  have hi := List.mem_range.1 hi
  rw [set_len] at hi
  rw [set_ps hi]
  unfold okp
  by_cases c : i = 0
  · subst c; rfl
  · rw [if_neg c]
    obtain ⟨p, h1, h2, _⟩ := h.par hi (by omega)
    rw [h2]; simp; omega
theorem SetsOk.tree (hk : ShOk names l) (h : SetsOk names.length S) (hS : S.length ≤ 64) : treeErr (setT names S) = 0 := by
  have hp := h.pos
  unfold treeErr
  rw [set_len, if_neg (by omega), if_neg (by omega), if_neg (by simp [setT]), if_pos h.pok]
  refine firstNZ_zero fun i hi => ?_
  unfold nErr
  by_cases h1 : (gl S i).length = 1
  · rw [if_neg (fun q => (h.inn hi).1 q h1)]
    obtain ⟨b, hb, e, en⟩ := h.one hi h1
    have hn := hk.nm b hb
    rw [en, if_pos hn, if_neg]
    intro q
    unfold seenK at q
    obtain ⟨j, hj, e2⟩ := List.any_eq_true.1 q
    have hj := List.mem_range.1 hj
    have e2 := of_decide_eq_true e2
    rw [en] at e2
    by_cases j1 : (gl S j).length = 1
    · obtain ⟨b', hb', e', en'⟩ := h.one (show j < S.length by omega) j1
      rw [en'] at e2
      have : b' = b := by
        rcases Nat.lt_trichotomy b' b with c | c | c
        · exact absurd e2.symm (hk.nd b' b c hb)
        · exact c
        · exact absurd e2 (hk.nd b b' c hb')
      subst this
      have := h.at_eq (show j < S.length by omega) hi (by rw [e', e])
      omega
    · have := h.big (show j < S.length by omega) j1
      rw [e2] at this
      exact named_size hn this
  · rw [if_pos ((h.inn hi).2 h1), if_pos (h.big hi h1)]
def Lv (names : List ByteArray) (s : RT) (x : List Int) : Prop := ∀ y, y ∈ leafR s ↔ ∃ b : Nat, (b : Int) ∈ x ∧ y = gs names b
theorem SetsOk.leaves (hk : ShOk names l) (h : SetsOk names.length S) (hS : S.length ≤ 64) : ∀ d i, S.length - i ≤ d → i < S.length → Lv names (toRF (frT (setT names S)) (rkT (setT names S)) i) (gl S i)
  | 0, i, hd, hi => by omega
  | d + 1, i, hd, hi => by
    have ht := h.tree hk hS
    have hi' : i < (setT names S).ps.length := by rw [set_len]; exact hi
    intro y
    rw [toRF_eq (frT_arb ht).wf hi', frT_kids, show (frT (setT names S)).nm i = gs (setT names S).ns i from rfl]
    by_cases h1 : (gl S i).length = 1
    · obtain ⟨b, hb, e, en⟩ := h.one hi h1
      have hkid : kidsL (setT names S).ps i = [] := by
        rw [List.eq_nil_iff_forall_not_mem]
        intro c hc
        obtain ⟨c1, c2, c3⟩ := mem_kidsL.1 hc
        refine (h.inn hi).1 ?_ h1
        unfold isIn inK
        rw [List.any_eq_true]
        exact ⟨c, List.mem_range.2 c1, by rw [c3]; simp; omega⟩
      rw [hkid, List.map_nil, en, leafR_leaf (named_size (hk.nm b hb)), e]
      constructor
      · intro hy; exact ⟨b, by simp, by simpa using hy⟩
      · rintro ⟨b', hb', rfl⟩
        have : b' = b := by have := List.mem_singleton.1 hb'; omega
        subst this; simp
    · rw [leafR_node (h.big hi h1), List.mem_flatMap]
      constructor
      · rintro ⟨q, hq, hy⟩
        obtain ⟨c, hc, rfl⟩ := List.mem_map.1 hq
        obtain ⟨c1, c2, c3⟩ := mem_kidsL.1 hc
        rw [set_len] at c1
        rw [set_ps c1] at c3
        obtain ⟨b, hb, e⟩ := (SetsOk.leaves hk h hS d c (by omega) c1 y).1 hy
        exact ⟨b, (h.kid_sub c1 (by omega) c3).1 _ hb, e⟩
      · rintro ⟨b, hb, rfl⟩
        obtain ⟨c, c1, c2, c3, c4⟩ := h.kid_of hi h1 hb
        exact ⟨_, List.mem_map.2 ⟨c, mem_kidsL.2 ⟨by rw [set_len]; exact c1, c2, by rw [set_ps c1]; exact c3⟩, rfl⟩, (SetsOk.leaves hk h hS d c (by omega) c1 _).2 ⟨b, c4, rfl⟩⟩
theorem SetsOk.part (hk : ShOk names l) (h : SetsOk names.length S) (hS : S.length ≤ 64) {i : Nat} (hi : i < S.length) : PartOk (toRF (frT (setT names S)) (rkT (setT names S)) i) := by
  have ht := h.tree hk hS
  have hi' : i < (setT names S).ps.length := by rw [set_len]; exact hi
  have hkid : ∀ c, c ∈ kidsL (setT names S).ps i → c < S.length ∧ i < c ∧ parI S c c = (i : Int) := fun c hc => by
    obtain ⟨c1, c2, c3⟩ := mem_kidsL.1 hc
    rw [set_len] at c1
    rw [set_ps c1] at c3
    exact ⟨c1, c2, c3⟩
  unfold PartOk
  rw [toRF_nm (frT_arb ht).wf hi', toRF_kids (frT_arb ht).wf hi', frT_kids, show (frT (setT names S)).nm i = gs (setT names S).ns i from rfl]
  by_cases h1 : (gl S i).length = 1
  · obtain ⟨b, hb, e, en⟩ := h.one hi h1
    have hnil : kidsL (setT names S).ps i = [] := by
      rw [List.eq_nil_iff_forall_not_mem]
      intro c hc
      obtain ⟨c1, c2, c3⟩ := mem_kidsL.1 hc
      refine (h.inn hi).1 ?_ h1
      unfold isIn inK
      rw [List.any_eq_true]
      exact ⟨c, List.mem_range.2 c1, by rw [c3]; simp; omega⟩
    rw [hnil, en]
    exact ⟨fun q => absurd rfl q, fun _ => hk.nm b hb, by simp⟩
  · have hof : ∀ x ∈ gl S i, ∃ c ∈ kidsL (setT names S).ps i, x ∈ gl S c := fun x hx => by
      obtain ⟨c, c1, c2, c3, c4⟩ := h.kid_of hi h1 hx
      exact ⟨c, mem_kidsL.2 ⟨by rw [set_len]; exact c1, c2, by rw [set_ps c1]; exact c3⟩, c4⟩
    refine ⟨fun _ => h.big hi h1, fun q => ?_, fun q => ?_⟩
    · have q : kidsL (setT names S).ps i = [] := by simpa using q
      obtain ⟨x, hx⟩ := h.meet hi
      obtain ⟨c, hc, _⟩ := hof x hx
      rw [q] at hc; cases hc
    · rw [List.length_map] at q
      obtain ⟨c, hc⟩ := List.length_eq_one_iff.1 q
      obtain ⟨c1, c2, c3⟩ := hkid c (by rw [hc]; simp)
      have := h.eq_of hi c1 (fun x hx => by
        obtain ⟨c', hc', hx'⟩ := hof x hx
        rw [hc, List.mem_singleton] at hc'
        subst hc'; exact hx') (h.kid_sub c1 (by omega) c3).1
      omega
theorem SetsOk.oku (hk : ShOk names l) (h : SetsOk names.length S) (hS : S.length ≤ 64) : OkU (toR (setT names S)) := by
  have ht := h.tree hk hS
  refine ⟨(good_toR ht).nd, fun s hs => ?_⟩
  rw [subR_toR ht] at hs
  obtain ⟨j, hj, rfl⟩ := List.mem_map.1 hs
  have := mem_nodes_lt ht hj
  rw [set_len] at this
  exact h.part hk hS this
theorem SetsOk.node (hk : ShOk names l) (h : SetsOk names.length S) (hS : S.length ≤ 64) : ∀ (d i : Nat), i ≤ d → i < S.length → toRF (frT (setT names S)) (rkT (setT names S)) i ∈ subR (toR (setT names S))
  | d, i, hd, hi => by
    have ht := h.tree hk hS
    by_cases h0 : i = 0
    · subst h0; exact subR_self _
    · obtain ⟨p, p1, p2, _⟩ := h.par hi (by omega)
      cases d with
      | zero => omega
      | succ d =>
        have ih := SetsOk.node hk h hS d p (by omega) (by omega)
        refine subR_trans _ ih ?_
        have hp' : p < (setT names S).ps.length := by rw [set_len]; omega
        rw [toRF_eq (frT_arb ht).wf hp', frT_kids]
        exact mem_kid (List.mem_map.2 ⟨i, mem_kidsL.2 ⟨by rw [set_len]; exact hi, p1, by rw [set_ps hi]; exact p2⟩, rfl⟩)
theorem fam_lv {names : List ByteArray} {S : List (List Int)} {r1 r2 : RT} (h1 : ∀ s ∈ subR r1, ∃ x ∈ S, Lv names s x) (h2 : ∀ x ∈ S, ∃ s ∈ subR r2, Lv names s x) : FamIn r1 r2 := fun s hs => by
  obtain ⟨x, hx, e⟩ := h1 s hs
  obtain ⟨u, hu, f⟩ := h2 x hx
  exact ⟨u, hu, fun y => (e y).trans (f y).symm⟩
theorem SetsOk.same (hk : ShOk names l) (h : SetsOk names.length S) (hS : S.length ≤ 64) {r : RT} (hr : OkU r) (h1 : ∀ s ∈ subR r, ∃ x ∈ S, Lv names s x) (h2 : ∀ x ∈ S, ∃ s ∈ subR r, Lv names s x) : sortR (toR (setT names S)) = sortR r := by
  have ht := h.tree hk hS
  have a1 : ∀ s ∈ subR (toR (setT names S)), ∃ x ∈ S, Lv names s x := fun s hs => by
    rw [subR_toR ht] at hs
    obtain ⟨j, hj, rfl⟩ := List.mem_map.1 hs
    have := mem_nodes_lt ht hj
    rw [set_len] at this
    exact ⟨_, gl_mem this, h.leaves hk hS _ j (Nat.le_refl _) this⟩
  have a2 : ∀ x ∈ S, ∃ s ∈ subR (toR (setT names S)), Lv names s x := fun x hx => by
    obtain ⟨i, hi, rfl⟩ := gl_ex hx
    exact ⟨_, h.node hk hS i i (Nat.le_refl _) hi, h.leaves hk hS _ i (Nat.le_refl _) hi⟩
  exact uniq_sort _ _ _ (Nat.le_refl _) (h.oku hk hS) hr (fam_lv a1 h2) (fam_lv h1 a2)
end
end Go.Proofs.YtcbmbhghmfehpaaGreat
namespace Go.Proofs.YtcbmbhghmfehpaaGreat
/-- Node i of t stands for the set S i of names; the parent's set is the least one above. -/
structure NodeSets (names : List ByteArray) (t : Tre) (S : Nat → List Int) : Prop where
  nm : ∀ k, k < names.length → namedB (gs names k).data.toList = true
  nd : ∀ j k, j < k → k < names.length → gs names k ≠ gs names j
  n0 : 0 < t.ps.length
  n64 : t.ps.length ≤ 64
  len : t.ns.length = t.ps.length
  root : gi t.ps 0 = -1
  top : ∀ b : Nat, b < names.length → (b : Int) ∈ S 0
  bd : ∀ i, i < t.ps.length → (∀ x ∈ S i, 0 ≤ x ∧ x < (names.length : Int)) ∧ S i ≠ []
  par : ∀ i, 0 < i → i < t.ps.length → ∃ p, p < i ∧ gi t.ps i = (p : Int) ∧ (∀ x ∈ S i, x ∈ S p) ∧ ∀ j, j < t.ps.length → j ≠ i → (∀ x ∈ S i, x ∈ S j) → ∀ x ∈ S p, x ∈ S j
  inj : ∀ i j, i < t.ps.length → j < t.ps.length → (∀ x ∈ S i, x ∈ S j) → (∀ x ∈ S j, x ∈ S i) → i = j
  sing : ∀ b : Nat, b < names.length → ∃ i, i < t.ps.length ∧ S i = [(b : Int)]
  nms : ∀ i, i < t.ps.length → gs t.ns i = nmI names (S i)
  asc : ∀ i, i < t.ps.length → (S i).Nodup
section
variable {names : List ByteArray} {t : Tre} {S : Nat → List Int}
theorem NodeSets.kid_sub (h : NodeSets names t S) {i c : Nat} (hc : c < t.ps.length) (h0 : 0 < c) (e : gi t.ps c = (i : Int)) : (∀ x ∈ S c, x ∈ S i) ∧ i < c := by
  obtain ⟨p, p1, p2, p3, _⟩ := h.par c h0 hc
  rw [e] at p2
  have : i = p := by omega
  subst this; exact ⟨p3, p1⟩
theorem NodeSets.meet (h : NodeSets names t S) {i : Nat} (hi : i < t.ps.length) : ∃ x, x ∈ S i := List.exists_mem_of_ne_nil _ (h.bd i hi).2
theorem NodeSets.kid (h : NodeSets names t S) {i : Nat} (hi : i < t.ps.length) : ∀ (d p : Nat), p ≤ d → p < t.ps.length → p ≠ i → (∀ x ∈ S p, x ∈ S i) → ∃ c, c < t.ps.length ∧ i < c ∧ gi t.ps c = (i : Int) ∧ ∀ x ∈ S p, x ∈ S c := by
  have z : ∀ p, p < t.ps.length → p ≠ i → (∀ x ∈ S p, x ∈ S i) → 0 < p := fun p hp hne hs => by
    rcases Nat.eq_zero_or_pos p with e | e
    · subst e
      refine absurd (h.inj 0 i hp hi hs fun x hx => ?_) hne
      obtain ⟨x0, xn⟩ := (h.bd i hi).1 x hx
      have := h.top x.toNat (by omega)
      rwa [Int.toNat_of_nonneg x0] at this
    · exact e
  intro d
  induction d with
  | zero => intro p hd hp hne hs; have := z p hp hne hs; omega
  | succ d ih =>
    intro p hd hp hne hs
    obtain ⟨q, q1, q2, q3, q4⟩ := h.par p (z p hp hne hs) hp
    by_cases c : q = i
    · subst c; exact ⟨p, hp, q1, q2, fun x hx => hx⟩
    · obtain ⟨k, k1, k2, k3, k4⟩ := ih q (by omega) (by omega) c (q4 i hi (fun e => hne e.symm) hs)
      exact ⟨k, k1, k2, k3, fun x hx => k4 x (q3 x hx)⟩
theorem NodeSets.kid_of (h : NodeSets names t S) {i : Nat} (hi : i < t.ps.length) (h2 : (S i).length ≠ 1) {x : Int} (hx : x ∈ S i) : ∃ c, c < t.ps.length ∧ i < c ∧ gi t.ps c = (i : Int) ∧ x ∈ S c := by
  obtain ⟨x0, xn⟩ := (h.bd i hi).1 x hx
  obtain ⟨k, rfl⟩ : ∃ k : Nat, x = k := ⟨x.toNat, by omega⟩
  obtain ⟨p, hp, e⟩ := h.sing k (by omega)
  have hne : p ≠ i := fun q => by subst q; rw [e] at h2; exact h2 rfl
  obtain ⟨c, c1, c2, c3, c4⟩ := h.kid hi p p (Nat.le_refl _) hp hne (fun y hy => by rw [e, List.mem_singleton] at hy; subst hy; exact hx)
  exact ⟨c, c1, c2, c3, c4 _ (by rw [e]; simp)⟩
theorem NodeSets.inn (h : NodeSets names t S) {i : Nat} (hi : i < t.ps.length) : isIn t.ps i = true ↔ (S i).length ≠ 1 := by
  unfold isIn inK
  rw [List.any_eq_true]
  constructor
  · rintro ⟨c, hc, e⟩ h1
    have hc := List.mem_range.1 hc
    rw [Bool.and_eq_true, decide_eq_true_eq, beq_iff_eq] at e
    obtain ⟨s1, s2⟩ := h.kid_sub hc e.1 e.2
    obtain ⟨b, hb⟩ := List.length_eq_one_iff.1 h1
    obtain ⟨z, hz⟩ := h.meet hc
    have hzb := s1 z hz
    rw [hb, List.mem_singleton] at hzb
    have := h.inj i c hi hc (fun x hx => by rw [hb, List.mem_singleton] at hx; rw [hx, ← hzb]; exact hz) s1
    omega
  · intro h1
    obtain ⟨x, hx⟩ := h.meet hi
    obtain ⟨c, c1, c2, c3, _⟩ := h.kid_of hi h1 hx
    exact ⟨c, List.mem_range.2 c1, by rw [c3]; simp; omega⟩
theorem NodeSets.one (h : NodeSets names t S) {i : Nat} (hi : i < t.ps.length) (h1 : (S i).length = 1) : ∃ b : Nat, b < names.length ∧ S i = [(b : Int)] ∧ gs t.ns i = gs names b := by
  obtain ⟨x, hx⟩ := List.length_eq_one_iff.1 h1
  obtain ⟨x0, xn⟩ := (h.bd i hi).1 x (by rw [hx]; simp)
  refine ⟨x.toNat, by omega, by rw [hx]; congr 1; omega, ?_⟩
  rw [h.nms i hi, nmI, if_pos h1, hx]; rfl
theorem NodeSets.big (h : NodeSets names t S) {i : Nat} (hi : i < t.ps.length) (h1 : (S i).length ≠ 1) : (gs t.ns i).size = 0 := by
  rw [h.nms i hi, nmI, if_neg h1]; rfl
theorem NodeSets.pok (h : NodeSets names t S) : pOkB t.ps = true := by
  unfold pOkB
  rw [List.all_eq_true]
  intro i hi
  have hi := List.mem_range.1 hi
  unfold okp
  by_cases c : i = 0
  · subst c; rw [h.root]; rfl
  · rw [if_neg c]
    obtain ⟨p, h1, h2, _⟩ := h.par i (by omega) hi
    rw [h2]; simp; omega
theorem NodeSets.tree (h : NodeSets names t S) : treeErr t = 0 := by
  have hp := h.n0
  have h64 := h.n64
  unfold treeErr
  rw [if_neg (by omega), if_neg (by omega), if_neg (by rw [h.len]; simp), if_pos h.pok]
  refine firstNZ_zero fun i hi => ?_
  unfold nErr
  by_cases h1 : (S i).length = 1
  · rw [if_neg (fun q => (h.inn hi).1 q h1)]
    obtain ⟨b, hb, e, en⟩ := h.one hi h1
    have hn := h.nm b hb
    rw [en, if_pos hn, if_neg]
    intro q
    unfold seenK at q
    obtain ⟨j, hj, e2⟩ := List.any_eq_true.1 q
    have hj := List.mem_range.1 hj
    have e2 := of_decide_eq_true e2
    rw [en] at e2
    by_cases j1 : (S j).length = 1
    · obtain ⟨b', hb', e', en'⟩ := h.one (show j < t.ps.length by omega) j1
      rw [en'] at e2
      have : b' = b := by
        rcases Nat.lt_trichotomy b' b with c | c | c
        · exact absurd e2.symm (h.nd b' b c hb)
        · exact c
        · exact absurd e2 (h.nd b b' c hb')
      subst this
      have := h.inj j i (by omega) hi (by rw [e', e]; exact fun x hx => hx) (by rw [e', e]; exact fun x hx => hx)
      omega
    · have := h.big (show j < t.ps.length by omega) j1
      rw [e2] at this
      exact named_size hn this
  · rw [if_pos ((h.inn hi).2 h1), if_pos (h.big hi h1)]
theorem NodeSets.nokid (h : NodeSets names t S) {i : Nat} (hi : i < t.ps.length) (h1 : (S i).length = 1) : kidsL t.ps i = [] := by
  rw [List.eq_nil_iff_forall_not_mem]
  intro c hc
  obtain ⟨c1, c2, c3⟩ := mem_kidsL.1 hc
  refine (h.inn hi).1 ?_ h1
  unfold isIn inK
  rw [List.any_eq_true]
  exact ⟨c, List.mem_range.2 c1, by rw [c3]; simp; omega⟩
theorem NodeSets.leaves (h : NodeSets names t S) : ∀ d i, t.ps.length - i ≤ d → i < t.ps.length → Lv names (toRF (frT t) (rkT t) i) (S i)
  | 0, i, hd, hi => by omega
  | d + 1, i, hd, hi => by
    have ht := h.tree
    intro y
    rw [toRF_eq (frT_arb ht).wf hi, frT_kids, show (frT t).nm i = gs t.ns i from rfl]
    by_cases h1 : (S i).length = 1
    · obtain ⟨b, hb, e, en⟩ := h.one hi h1
      rw [h.nokid hi h1, List.map_nil, en, leafR_leaf (named_size (h.nm b hb)), e]
      constructor
      · intro hy; exact ⟨b, by simp, by simpa using hy⟩
      · rintro ⟨b', hb', rfl⟩
        have : b' = b := by have := List.mem_singleton.1 hb'; omega
        subst this; simp
    · rw [leafR_node (h.big hi h1), List.mem_flatMap]
      constructor
      · rintro ⟨q, hq, hy⟩
        obtain ⟨c, hc, rfl⟩ := List.mem_map.1 hq
        obtain ⟨c1, c2, c3⟩ := mem_kidsL.1 hc
        obtain ⟨b, hb, e⟩ := (NodeSets.leaves h d c (by omega) c1 y).1 hy
        exact ⟨b, (h.kid_sub c1 (by omega) c3).1 _ hb, e⟩
      · rintro ⟨b, hb, rfl⟩
        obtain ⟨c, c1, c2, c3, c4⟩ := h.kid_of hi h1 hb
        exact ⟨_, List.mem_map.2 ⟨c, mem_kidsL.2 ⟨c1, c2, c3⟩, rfl⟩, (NodeSets.leaves h d c (by omega) c1 _).2 ⟨b, c4, rfl⟩⟩
theorem NodeSets.part (h : NodeSets names t S) {i : Nat} (hi : i < t.ps.length) : PartOk (toRF (frT t) (rkT t) i) := by
  have ht := h.tree
  unfold PartOk
  rw [toRF_nm (frT_arb ht).wf hi, toRF_kids (frT_arb ht).wf hi, frT_kids, show (frT t).nm i = gs t.ns i from rfl]
  by_cases h1 : (S i).length = 1
  · obtain ⟨b, hb, e, en⟩ := h.one hi h1
    rw [h.nokid hi h1, en]
    exact ⟨fun q => absurd rfl q, fun _ => h.nm b hb, by simp⟩
  · have hof : ∀ x ∈ S i, ∃ c ∈ kidsL t.ps i, x ∈ S c := fun x hx => by
      obtain ⟨c, c1, c2, c3, c4⟩ := h.kid_of hi h1 hx
      exact ⟨c, mem_kidsL.2 ⟨c1, c2, c3⟩, c4⟩
    refine ⟨fun _ => h.big hi h1, fun q => ?_, fun q => ?_⟩
    · have q : kidsL t.ps i = [] := by simpa using q
      obtain ⟨x, hx⟩ := h.meet hi
      obtain ⟨c, hc, _⟩ := hof x hx
      rw [q] at hc; cases hc
    · rw [List.length_map] at q
      obtain ⟨c, hc⟩ := List.length_eq_one_iff.1 q
      obtain ⟨c1, c2, c3⟩ := mem_kidsL.1 (show c ∈ kidsL t.ps i by rw [hc]; simp)
      have := h.inj i c hi c1 (fun x hx => by
        obtain ⟨c', hc', hx'⟩ := hof x hx
        rw [hc, List.mem_singleton] at hc'
        subst hc'; exact hx') (h.kid_sub c1 (by omega) c3).1
      omega
theorem NodeSets.oku (h : NodeSets names t S) : OkU (toR t) := by
  have ht := h.tree
  refine ⟨(good_toR ht).nd, fun s hs => ?_⟩
  rw [subR_toR ht] at hs
  obtain ⟨j, hj, rfl⟩ := List.mem_map.1 hs
  exact h.part (mem_nodes_lt ht hj)
theorem NodeSets.node (h : NodeSets names t S) : ∀ (d i : Nat), i ≤ d → i < t.ps.length → toRF (frT t) (rkT t) i ∈ subR (toR t)
  | d, i, hd, hi => by
    have ht := h.tree
    by_cases h0 : i = 0
    · subst h0; exact subR_self _
    · obtain ⟨p, p1, p2, _⟩ := h.par i (by omega) hi
      cases d with
      | zero => omega
      | succ d =>
        have ih := NodeSets.node h d p (by omega) (by omega)
        refine subR_trans _ ih ?_
        rw [toRF_eq (frT_arb ht).wf (show p < t.ps.length by omega), frT_kids]
        exact mem_kid (List.mem_map.2 ⟨i, mem_kidsL.2 ⟨hi, p1, p2⟩, rfl⟩)
/-- Each part stands for a node's set, and each node has a part. -/
theorem NodeSets.parts (h : NodeSets names t S) : (∀ s ∈ subR (toR t), ∃ i, i < t.ps.length ∧ Lv names s (S i)) ∧ ∀ i, i < t.ps.length → ∃ s ∈ subR (toR t), Lv names s (S i) := by
  have ht := h.tree
  constructor
  · intro s hs
    rw [subR_toR ht] at hs
    obtain ⟨j, hj, rfl⟩ := List.mem_map.1 hs
    have := mem_nodes_lt ht hj
    exact ⟨j, this, h.leaves _ j (Nat.le_refl _) this⟩
  · exact fun i hi => ⟨_, h.node i i (Nat.le_refl _) hi, h.leaves _ i (Nat.le_refl _) hi⟩
end
end Go.Proofs.YtcbmbhghmfehpaaGreat
