/- The tree of splits: plain. The first pair that is not compatible; how many splits are of one tree only: plain. The laws SplitStates, SplitCompatible: plain. slices.IndexFunc and ContainsFunc at ints with a function that draws. split.Of: the map of names, the closure that asks it. split.OfStates. slices.IndexFunc and ContainsFunc at lists with a function that draws. A range over a function whose iterator owns blocks: between two yields it may write what it owns; what it yields it gives away. -/
import Derived.Test.YtcbmbhghmfehpaaGreatQ25
import Derived.Test.YtcbmbhghmfehpaaGreatQ4
import Derived.Test.YtcbmbhghmfehpaaGreatQ2
import Derived.Test.YtcbmbhghmfehpaaGreatQ3
import Derived.Test.YtcbmbhghmfehpaaGreatQ16
import Derived.RangeFuncWrites
namespace Go.Proofs.YtcbmbhghmfehpaaGreat
def bnErr (names : List ByteArray) (i : Nat) : Int := if namedB (gs names i).data.toList then (if seenK names i then 7 else 0) else 14
def bldErr (names : List ByteArray) (l : List (List Int)) : Int :=
  if names.length = 0 then 5 else if 32 < names.length ∨ 64 < l.length then 4
  else if firstNZ (bnErr names) names.length ≠ 0 then firstNZ (bnErr names) names.length
  else if firstNZ (fun k => splErr names.length (gl l k)) l.length ≠ 0 then firstNZ (fun k => splErr names.length (gl l k)) l.length
  else if 0 ≤ pairI l then 17 else 0
structure BldOk (names : List ByteArray) (l : List (List Int)) : Prop where
  pos : 0 < names.length
  le : names.length ≤ 32
  l64 : l.length ≤ 64
  nm : ∀ k, k < names.length → namedB (gs names k).data.toList = true
  nd : ∀ j k, j < k → k < names.length → gs names k ≠ gs names j
  spl : ∀ s ∈ l, SplOk names.length s
  cmp : ∀ i k, i < k → k < l.length → compB (gl l i) (gl l k) = true
theorem gl_in {l : List (List Int)} {k : Nat} (h : k < l.length) : gl l k ∈ l := by simp [gl, h]
theorem in_gl {l : List (List Int)} {x : List Int} (h : x ∈ l) : ∃ k, k < l.length ∧ gl l k = x := by
  obtain ⟨k, hk, e⟩ := List.mem_iff_getElem.1 h
  exact ⟨k, hk, by simp [gl, hk, e]⟩
theorem pair_none {l : List (List Int)} : pairI l < 0 ↔ ∀ i k, i < k → k < l.length → compB (gl l i) (gl l k) = true := by
  have h1 := firstIx_any (fun i => decide (0 ≤ rowPair l i)) l.length
  have h2 : ∀ i, decide (0 ≤ rowPair l i) = (List.range l.length).any fun k => decide (i < k) && !compB (gl l i) (gl l k) := fun i => firstIx_any _ _
  constructor
  · intro h i k hik hk
    have h3 : (List.range l.length).any (fun i => decide (0 ≤ rowPair l i)) = false := by
      rw [← h1]; exact decide_eq_false (by unfold pairI at h; omega)
    have h4 := any_false h3 (show i < l.length by omega)
    rw [h2] at h4
    have h5 := any_false h4 hk
    rw [decide_eq_true hik, Bool.true_and] at h5
    simpa using h5
  · intro h
    have h3 : (List.range l.length).any (fun i => decide (0 ≤ rowPair l i)) = false := any_none fun i hi => by
      rw [h2]
      refine any_none fun k hk => ?_
      by_cases e : i < k
      · rw [h i k e hk]; simp
      · rw [decide_eq_false e]; rfl
    rw [← h1] at h3
    have := of_decide_eq_false h3
    unfold pairI; omega
theorem bldErr_ok {names : List ByteArray} {l : List (List Int)} : bldErr names l = 0 ↔ BldOk names l := by
  unfold bldErr
  constructor
  · intro h
    split at h
    · cases h
    · split at h
      · cases h
      · split at h
        · rename_i h3; exact absurd h h3
        · rename_i h3
          have h3 := firstNZ_eq_zero (Classical.not_not.1 h3)
          split at h
          · rename_i h4; exact absurd h h4
          · rename_i h4
            have h4 := firstNZ_eq_zero (Classical.not_not.1 h4)
            split at h
            · cases h
            · rename_i h5
              refine ⟨by omega, by omega, by omega, fun k hk => ?_, fun j k hjk hk e => ?_, fun s hs => ?_, pair_none.1 (by omega)⟩
              · have := h3 k hk
                unfold bnErr at this
                split at this
                · assumption
                · cases this
              · have := h3 k hk
                unfold bnErr at this
                split at this
                · rw [if_pos] at this
                  · cases this
                  · exact List.any_eq_true.2 ⟨j, List.mem_range.2 hjk, decide_eq_true e.symm⟩
                · cases this
              · obtain ⟨k, hk, rfl⟩ := in_gl hs
                exact splErr_zero.1 (h4 k hk)
  · intro h
    have h1 := h.pos
    have h2 := h.le
    have h3 := h.l64
    have h4 : firstNZ (bnErr names) names.length = 0 := firstNZ_zero fun k hk => by
      unfold bnErr
      rw [if_pos (h.nm k hk), if_neg]
      intro e
      obtain ⟨j, hj, e⟩ := List.any_eq_true.1 e
      exact h.nd j k (List.mem_range.1 hj) hk (of_decide_eq_true e).symm
    have h5 : firstNZ (fun k => splErr names.length (gl l k)) l.length = 0 := firstNZ_zero fun k hk => splErr_zero.2 (h.spl _ (gl_in hk))
    have h6 := pair_none.2 h.cmp
    rw [if_neg (by omega), if_neg (by omega), if_neg (fun e => e h4), if_neg (fun e => e h5), if_neg (by omega)]
/-- Longer lists first. -/
def cmpQ (a b : List Int) : Int := if b.length < a.length then -1 else if a.length < b.length then 1 else cmpL a b
theorem cmpQ_zero {a b : List Int} (h : cmpQ a b = 0) : a = b := by
  unfold cmpQ at h
  split at h
  · omega
  · split at h
    · omega
    · exact cmpL_zero h
theorem cmpQ_self (a : List Int) : cmpQ a a = 0 := by unfold cmpQ; rw [if_neg (by omega), if_neg (by omega)]; exact cmpL_self a
theorem cmpQ_anti (a b : List Int) : cmpQ b a = - cmpQ a b := by
  unfold cmpQ
  by_cases h1 : b.length < a.length
  · simp only [if_pos h1, if_neg (show ¬ a.length < b.length by omega)]; rfl
  · by_cases h2 : a.length < b.length
    · simp only [if_pos h2, if_neg h1]
    · simp only [if_neg h1, if_neg h2]; exact cmpL_anti a b
theorem cmpQ_trans {a b c : List Int} (h1 : cmpQ a b < 0) (h2 : cmpQ b c < 0) : cmpQ a c < 0 := by
  unfold cmpQ at *
  by_cases x1 : b.length < a.length
  · by_cases y1 : c.length < b.length
    · rw [if_pos (by omega)]; omega
    · rw [if_neg y1] at h2
      by_cases y2 : b.length < c.length
      · rw [if_pos y2] at h2; omega
      · rw [if_pos (by omega)]; omega
  · rw [if_neg x1] at h1
    by_cases x2 : a.length < b.length
    · rw [if_pos x2] at h1; omega
    · rw [if_neg x2] at h1
      by_cases y1 : c.length < b.length
      · rw [if_pos (by omega)]; omega
      · rw [if_neg y1] at h2
        by_cases y2 : b.length < c.length
        · rw [if_pos y2] at h2; omega
        · rw [if_neg y2] at h2
          rw [if_neg (by omega), if_neg (by omega)]
          exact cmpL_trans h1 h2
def leQ (a b : List Int) : Prop := cmpQ a b ≤ 0
theorem leQ_trans {a b c : List Int} (h1 : leQ a b) (h2 : leQ b c) : leQ a c := by
  unfold leQ at *
  by_cases e1 : cmpQ a b = 0
  · rw [cmpQ_zero e1]; exact h2
  · by_cases e2 : cmpQ b c = 0
    · rw [← cmpQ_zero e2]; exact h1
    · have h3 : cmpQ a b < 0 := by omega
      have h4 : cmpQ b c < 0 := by omega
      exact Int.le_of_lt (cmpQ_trans h3 h4)
def insQ (a : List Int) : List (List Int) → List (List Int)
  | [] => [a]
  | b :: l => if cmpQ a b ≤ 0 then a :: b :: l else b :: insQ a l
def sortQ : List (List Int) → List (List Int)
  | [] => []
  | a :: l => insQ a (sortQ l)
theorem insQ_perm (a : List Int) : ∀ l : List (List Int), (insQ a l).Perm (a :: l)
  | [] => List.Perm.refl _
  | b :: l => by
    rw [insQ]
    split
    · exact List.Perm.refl _
    · exact (List.Perm.cons b (insQ_perm a l)).trans (List.Perm.swap a b l)
theorem sortQ_perm : ∀ l : List (List Int), (sortQ l).Perm l
  | [] => List.Perm.refl _
  | a :: l => (insQ_perm a _).trans (List.Perm.cons a (sortQ_perm l))
theorem insQ_sorted (a : List Int) : ∀ {l : List (List Int)}, l.Pairwise leQ → (insQ a l).Pairwise leQ
  | [], _ => by simp [insQ]
  | b :: l, h => by
    rw [insQ]
    rw [List.pairwise_cons] at h
    split
    · rename_i h1
      refine List.pairwise_cons.2 ⟨fun c hc => ?_, List.pairwise_cons.2 h⟩
      rcases List.mem_cons.1 hc with rfl | hc
      · exact h1
      · exact leQ_trans h1 (h.1 c hc)
    · rename_i h1
      refine List.pairwise_cons.2 ⟨fun c hc => ?_, insQ_sorted a h.2⟩
      rcases List.mem_cons.1 ((insQ_perm a l).mem_iff.1 hc) with rfl | hc
      · unfold leQ; have := cmpQ_anti c b; omega
      · exact h.1 c hc
theorem sortQ_sorted : ∀ l : List (List Int), (sortQ l).Pairwise leQ
  | [] => List.Pairwise.nil
  | a :: l => insQ_sorted a (sortQ_sorted l)
theorem sortQ_uniq {a b : List (List Int)} (hp : a.Perm b) (h : a.Pairwise leQ) : a = sortQ b :=
  List.Perm.eq_of_pairwise (le := leQ) (fun x y _ _ h1 h2 => cmpQ_zero (by unfold leQ at h1 h2; have := cmpQ_anti x y; omega)) h (sortQ_sorted b) (hp.trans (sortQ_perm b).symm)
/-- The splits, greater ones first, each once. -/
def ownQ (l : List (List Int)) : List (List Int) := cptX (sortQ l)
theorem mem_ownO {x : List Int} {l : List (List Int)} : x ∈ ownQ l ↔ x ∈ l := by unfold ownQ; rw [mem_cptX]; exact (sortQ_perm l).mem_iff
theorem cptQ_strict : ∀ {l : List (List Int)}, l.Pairwise leQ → (cptX l).Pairwise fun a b => cmpQ a b < 0
  | [], _ => List.Pairwise.nil
  | a :: l, h => by
    rw [List.pairwise_cons] at h
    rw [cptX]
    split
    · exact cptQ_strict h.2
    · rename_i hne
      refine List.pairwise_cons.2 ⟨fun c hc => ?_, cptQ_strict h.2⟩
      have hc := mem_cptX.1 hc
      have h1 := h.1 c hc
      unfold leQ at h1
      by_cases e : cmpQ a c = 0
      · exfalso
        have e := cmpQ_zero e
        subst e
        cases l with
        | nil => cases hc
        | cons b l =>
          rw [List.head?_cons] at hne
          have h2 := h.1 b (by simp)
          rcases List.mem_cons.1 hc with rfl | hc
          · exact hne rfl
          · have h3 := (List.pairwise_cons.1 h.2).1 _ hc
            unfold leQ at h2 h3
            have := cmpQ_anti a b
            exact hne (by rw [cmpQ_zero (a := a) (b := b) (by omega)])
      · omega
theorem ownQ_strict (l : List (List Int)) : (ownQ l).Pairwise fun a b => cmpQ a b < 0 := cptQ_strict (sortQ_sorted l)
theorem cptX_len : ∀ l : List (List Int), (cptX l).length ≤ l.length
  | [] => Nat.le_refl _
  | a :: l => by
    rw [cptX]
    have := cptX_len l
    split <;> simp <;> omega
theorem ownQ_len (l : List (List Int)) : (ownQ l).length ≤ l.length := by unfold ownQ; rw [← (sortQ_perm l).length_eq]; exact cptX_len _
/-- The place of the last of the first k lists that has x: its node; 2 if there is none. -/
def lastQ (own : List (List Int)) (x : Int) : Nat → Int
  | 0 => 2
  | k + 1 => if (gl own k).contains x then ((3 + k : Nat) : Int) else lastQ own x k
def bT (names : List ByteArray) (own : List (List Int)) : Tre :=
  ⟨[-1, 0, 0] ++ ((List.range own.length).map (fun k => lastQ own (gi (gl own k) 0) k) ++ (List.range (names.length - 1)).map fun b => lastQ own ((b + 1 : Nat) : Int) own.length),
   [ByteArray.empty, gs names 0, ByteArray.empty] ++ (List.replicate own.length ByteArray.empty ++ (List.range (names.length - 1)).map fun b => gs names (b + 1))⟩
def bldT (names : List ByteArray) (l : List (List Int)) : Tre :=
  if names.length = 1 then ⟨[-1], [gs names 0]⟩ else if names.length = 2 then canT ⟨[-1, 0, 0], [ByteArray.empty, gs names 0, gs names 1]⟩ else canT (bT names (ownQ l))
def bldR (names : List ByteArray) (l : List (List Int)) : Tre := if bldErr names l = 0 then bldT names l else ⟨[], []⟩
/-- The set of node i. -/
def bS (names : List ByteArray) (own : List (List Int)) (i : Nat) : List Int :=
  if i = 0 then allI names.length else if i = 1 then [0] else if i = 2 then complL names.length [0] else if i < 3 + own.length then gl own (i - 3) else [((i - 2 - own.length : Nat) : Int)]
theorem lastQ_spec (own : List (List Int)) (x : Int) : ∀ k, (lastQ own x k = 2 ∧ ∀ j, j < k → x ∉ gl own j) ∨ ∃ p, p < k ∧ lastQ own x k = ((3 + p : Nat) : Int) ∧ x ∈ gl own p ∧ ∀ j, p < j → j < k → x ∉ gl own j
  | 0 => .inl ⟨rfl, fun j hj => absurd hj (Nat.not_lt_zero _)⟩
  | k + 1 => by
    rw [lastQ]
    by_cases h : x ∈ gl own k
    · rw [if_pos (List.contains_iff_mem.2 h)]
      exact .inr ⟨k, by omega, rfl, h, fun j h1 h2 => by omega⟩
    · rw [if_neg (fun e => h (List.contains_iff_mem.1 e))]
      rcases lastQ_spec own x k with ⟨h1, h2⟩ | ⟨p, h1, h2, h3, h4⟩
      · refine .inl ⟨h1, fun j hj => ?_⟩
        by_cases e : j = k
        · subst e; exact h
        · exact h2 j (by omega)
      · refine .inr ⟨p, by omega, h2, h3, fun j hj1 hj2 => ?_⟩
        by_cases e : j = k
        · subst e; exact h
        · exact h4 j hj1 (by omega)
section
variable {names : List ByteArray} {l : List (List Int)}
theorem bT_len : (bT names (ownQ l)).ps.length = 3 + (ownQ l).length + (names.length - 1) := by simp [bT]; omega
theorem bT_nlen : (bT names (ownQ l)).ns.length = 3 + (ownQ l).length + (names.length - 1) := by simp [bT]; omega
theorem bT_ps {own : List (List Int)} (i : Nat) : gi (bT names own).ps i = if i = 0 then -1 else if i < 3 then 0 else if i < 3 + own.length then lastQ own (gi (gl own (i - 3)) 0) (i - 3) else if i < 3 + own.length + (names.length - 1) then lastQ own ((i - 2 - own.length : Nat) : Int) own.length else 0 := by
  by_cases h0 : i = 0
  · subst h0; rfl
  by_cases h1 : i = 1
  · subst h1; rfl
  by_cases h2 : i = 2
  · subst h2; rfl
  obtain ⟨j, rfl⟩ : ∃ j, i = 3 + j := ⟨i - 3, by omega⟩
  rw [if_neg h0, if_neg (by omega)]
  have e : gi (bT names own).ps (3 + j) = gi ((List.range own.length).map (fun k => lastQ own (gi (gl own k) 0) k) ++ (List.range (names.length - 1)).map fun b => lastQ own ((b + 1 : Nat) : Int) own.length) j := by
    have := gi_app_r [-1, 0, 0] ((List.range own.length).map (fun k => lastQ own (gi (gl own k) 0) k) ++ (List.range (names.length - 1)).map fun b => lastQ own ((b + 1 : Nat) : Int) own.length) j
    exact this
  rw [e]
  by_cases h3 : j < own.length
  · rw [if_pos (by omega), gi_app_l _ (by simpa using h3), show 3 + j - 3 = j by omega]
    simp [gi, h3]
  · rw [if_neg (by omega)]
    obtain ⟨b, rfl⟩ : ∃ b, j = own.length + b := ⟨j - own.length, by omega⟩
    have e2 := gi_app_r ((List.range own.length).map (fun k => lastQ own (gi (gl own k) 0) k)) ((List.range (names.length - 1)).map fun b => lastQ own ((b + 1 : Nat) : Int) own.length) b
    rw [List.length_map, List.length_range] at e2
    rw [e2]
    by_cases h4 : b < names.length - 1
    · rw [if_pos (by omega), show 3 + (own.length + b) - 2 - own.length = b + 1 by omega]
      simp [gi, h4]
    · rw [if_neg (by omega)]
      simp [gi, h4]
end
end Go.Proofs.YtcbmbhghmfehpaaGreat
namespace Go.Proofs.YtcbmbhghmfehpaaGreat
def hasL (b : List (List Int)) (s : List Int) : Bool := (List.range b.length).any fun j => decide (s = gl b j)
def onlyK (a b : List (List Int)) : Nat → Nat
  | 0 => 0
  | k + 1 => onlyK a b k + if hasL b (gl a k) then 0 else 1
def onlyN (a b : List (List Int)) : Nat := onlyK a b a.length
def distN (a b : List (List Int)) : Nat := onlyN a b + onlyN b a
theorem onlyK_le (a b : List (List Int)) : ∀ k, onlyK a b k ≤ k
  | 0 => Nat.le_refl _
  | k + 1 => by
    have := onlyK_le a b k
    rw [onlyK]; split <;> omega
theorem only_le (a b : List (List Int)) : onlyN a b ≤ a.length := onlyK_le a b _
end Go.Proofs.YtcbmbhghmfehpaaGreat
namespace Go.Proofs.YtcbmbhghmfehpaaGreat
/-- How often numbers below n are in a as i says, and in b as j says. -/
def c4 (a b : List Int) (i j : Bool) : Nat → Nat
  | 0 => 0
  | n + 1 => c4 a b i j n + if (a.contains (n : Int) == i && b.contains (n : Int) == j) then 1 else 0
theorem c4_le (a b : List Int) (i j : Bool) : ∀ n, c4 a b i j n ≤ n
  | 0 => Nat.le_refl _
  | n + 1 => by have := c4_le a b i j n; rw [c4]; split <;> omega
theorem c4_pos {a b : List Int} {i j : Bool} : ∀ {n : Nat}, c4 a b i j n ≠ 0 ↔ ∃ x : Nat, x < n ∧ a.contains (x : Int) = i ∧ b.contains (x : Int) = j
  | 0 => by simp [c4]
  | n + 1 => by
    rw [c4]
    constructor
    · intro h
      by_cases e : (a.contains (n : Int) == i && b.contains (n : Int) == j) = true
      · rw [Bool.and_eq_true, beq_iff_eq, beq_iff_eq] at e
        exact ⟨n, by omega, e⟩
      · rw [if_neg e, Nat.add_zero] at h
        obtain ⟨x, hx, e⟩ := c4_pos.1 h
        exact ⟨x, by omega, e⟩
    · rintro ⟨x, hx, e⟩
      by_cases hxn : x = n
      · subst hxn
        rw [if_pos (by rw [Bool.and_eq_true, beq_iff_eq, beq_iff_eq]; exact e)]; omega
      · have := c4_pos.2 ⟨x, (by omega : x < n), e⟩
        omega
theorem compB_symm {a b : List Int} (ha : SetOk a) (hb : SetOk b) : compB b a = compB a b := by
  rw [Bool.eq_iff_iff, compB_iff ha hb, compB_iff hb ha]
  constructor
  · rintro (h | h | h)
    · exact .inl fun x hx hy => h x hy hx
    · exact .inr (.inr h)
    · exact .inr (.inl h)
  · rintro (h | h | h)
    · exact .inl fun x hx hy => h x hy hx
    · exact .inr (.inr h)
    · exact .inr (.inl h)
theorem comp_law {k : Nat} {a b : List Int} (ha : SplOk k a) (hb : SplOk k b) :
    compB a b = (decide (c4 a b false false k = 0) || decide (c4 a b false true k = 0) || decide (c4 a b true false k = 0) || decide (c4 a b true true k = 0)) := by
  have h00 : c4 a b false false k ≠ 0 := c4_pos.2 ⟨0, by have := ha.n1; omega, by
    rw [Bool.eq_false_iff]; intro e; have := ha.bd _ (List.contains_iff_mem.1 e); omega, by
    rw [Bool.eq_false_iff]; intro e; have := hb.bd _ (List.contains_iff_mem.1 e); omega⟩
  rw [decide_eq_false h00, Bool.false_or, Bool.eq_iff_iff, compB_iff ha.set hb.set, Bool.or_eq_true, Bool.or_eq_true, decide_eq_true_eq, decide_eq_true_eq, decide_eq_true_eq]
  have z : ∀ i j, c4 a b i j k = 0 ↔ ∀ x : Nat, x < k → ¬(a.contains (x : Int) = i ∧ b.contains (x : Int) = j) := fun i j => by
    have := c4_pos (a := a) (b := b) (i := i) (j := j) (n := k)
    constructor
    · intro h x hx e; exact absurd h (this.2 ⟨x, hx, e⟩)
    · intro h
      by_cases e : c4 a b i j k = 0
      · exact e
      · obtain ⟨x, hx, e2⟩ := this.1 e
        exact absurd e2 (h x hx)
  have na : ∀ x ∈ a, ∃ q : Nat, q < k ∧ x = (q : Int) := fun x hx => by have := ha.bd x hx; exact ⟨x.toNat, by omega, by omega⟩
  have nb : ∀ x ∈ b, ∃ q : Nat, q < k ∧ x = (q : Int) := fun x hx => by have := hb.bd x hx; exact ⟨x.toNat, by omega, by omega⟩
  have ct : ∀ (l : List Int) (x : Int), l.contains x = true ↔ x ∈ l := fun l x => List.contains_iff_mem
  have cf : ∀ (l : List Int) (x : Int), l.contains x = false ↔ x ∉ l := fun l x => by rw [← ct, Bool.not_eq_true]
  rw [z, z, z]
  simp only [ct, cf]
  constructor
  · rintro (h | h | h)
    · exact .inr fun x _ e => h _ e.1 e.2
    · exact .inl (.inr fun x _ e => e.2 (h _ e.1))
    · exact .inl (.inl fun x _ e => e.1 (h _ e.2))
  · rintro ((h | h) | h)
    · refine .inr (.inr fun x hx => ?_)
      obtain ⟨q, hq, rfl⟩ := nb x hx
      exact Classical.byContradiction fun e => h q hq ⟨e, hx⟩
    · refine .inr (.inl fun x hx => ?_)
      obtain ⟨q, hq, rfl⟩ := na x hx
      exact Classical.byContradiction fun e => h q hq ⟨hx, e⟩
    · refine .inl fun x hx hy => ?_
      obtain ⟨q, hq, rfl⟩ := na x hx
      exact h q hq ⟨hx, hy⟩
end Go.Proofs.YtcbmbhghmfehpaaGreat
namespace Go.Proofs.YtcbmbhghmfehpaaGreat
open Go.RowKit Go.Deep
def FnD (g : Nat) (lb args : Array Value) (res : Value) (w : World) : Prop := ∀ m, Calls Tryz.prog g (args ++ lb) (w.drewN m) fun e w' => e = .returned res ∧ ∃ q, w' = w.drewN q
set_option maxHeartbeats 400000 in
theorem ints_ix_d (g : Nat) (lb : Array Value) (eg : ∀ args w, (callFunc g args).run Tryz.prog w = .ok (.enter g args) w) (S : Nat → Prop) (w : World) (v : Value) (n : Nat) (f : Nat → Value) (p : Nat → Bool)
    (h : SlAt S w v n f) (hn : n ≤ 1000000) (hp : ∀ k, k < n → FnD g lb #[f k] (.bool (p k)) w) :
    Calls Tryz.prog 139 #[v, .func (.func g) #[] lb] w fun e w' => e = .returned (.int .i64 (firstIx p n)) ∧ ∃ q, w' = w.drewN q := by
  obtain ⟨q, cap, rfl, hcap, H⟩ := h.open
  have HP := Lib.hid hp
  clear h hp
  go_enter Tryz.func139, Tryz.ntmps139
  go_wp2_with fail
  go_loopw [5, 8] (fun _ i wr => ∃ k : Nat, k ≤ n ∧ i = .int .i64 k ∧ Hid (∀ j, j < k → p j = false) ∧ Hid (∃ m, wr = w.drewN m)) (fun _ i _ => n - (intOf i).toNat)
  case atStart => exact ⟨0, Nat.zero_le _, rfl, fun j hj => absurd hj (Nat.not_lt_zero _), 0, rfl⟩
  case round =>
    obtain ⟨k, hk, rfl, hd, hm⟩ := hrel
    obtain ⟨m, rfl⟩ := hm.out
    clear hm
    by_cases hlt : k < n
    · obtain ⟨b, off, rfl, hc⟩ := H k hlt
      have hc := (Up.drewN w m).cell hc
      clear H
      have hpk := HP.out k hlt
      unfold FnD at hpk
      have HPK := Lib.hid (hpk m)
      clear hpk HP
      generalize hv : p k = pk at *
      have HV := Lib.hid hv
      clear hv
      cases pk
      · go_wp2_with fail
        refine HPK.out.mono ?_
        rintro e w' ⟨rfl, m2, rfl⟩
        go_wp2_with fail
        go_roundw
        case rel => exact ⟨k + 1, by omega, by go_num, fun j hj => if e : j = k then by subst e; exact HV.out else hd.out j (by omega), m2, rfl⟩
        case measure => simp [intOf]; omega
      · go_wp2_with fail
        refine HPK.out.mono ?_
        rintro e w' ⟨rfl, m2, rfl⟩
        go_wp2_with fail
        go_ret
        exact ⟨ret_int (firstIx_at hlt hd.out HV.out).symm, m2, rfl⟩
    · clear H
      go_wp2_with fail
      go_ret
      exact ⟨ret_int (firstIx_none fun j hj => hd.out j (by omega)).symm, m, rfl⟩
set_option maxHeartbeats 400000 in
theorem ints_has_d (g : Nat) (lb : Array Value) (eg : ∀ args w, (callFunc g args).run Tryz.prog w = .ok (.enter g args) w) (S : Nat → Prop) (w : World) (v : Value) (n : Nat) (f : Nat → Value) (p : Nat → Bool)
    (h : SlAt S w v n f) (hn : n ≤ 1000000) (hp : ∀ k, k < n → FnD g lb #[f k] (.bool (p k)) w) :
    Calls Tryz.prog 70 #[v, .func (.func g) #[] lb] w fun e w' => e = .returned (.bool ((List.range n).any p)) ∧ ∃ q, w' = w.drewN q := by
  have hx := firstIx_any p n
  have HX := Lib.hid hx
  have HI := Lib.hid (ints_ix_d g lb eg S w v n f p h hn hp)
  obtain ⟨q, cap, rfl, -, -⟩ := SlAt.open h
  clear hx hp h eg
  go_enter Tryz.func70, Tryz.ntmps70
  go_wp2_with fail
  refine HI.out.mono ?_
  rintro e w' ⟨rfl, m, rfl⟩
  go_wp2_with fail
  go_ret
  exact ⟨ret_bool (by rw [← HX.out]), m, rfl⟩
end Go.Proofs.YtcbmbhghmfehpaaGreat
namespace Go.Proofs.YtcbmbhghmfehpaaGreat
open Go.RowKit Go.Deep
def smK (names : List ByteArray) : Nat → List (ByteArray × Value)
  | 0 => []
  | k + 1 => putS (smK names k) (gs names k) (.bool true)
def inNm (names : List ByteArray) (k : Nat) (s : ByteArray) : Bool := (List.range k).any fun j => decide (gs names j = s)
theorem smK_uniq (names : List ByteArray) : ∀ k, UniqS (smK names k)
  | 0 => List.nodup_nil
  | k + 1 => putS_uniq (smK_uniq names k) _ _
theorem smK_look (names : List ByteArray) (s : ByteArray) : ∀ k, ((smK names k).lookup s).getD (.bool false) = .bool (inNm names k s)
  | 0 => rfl
  | k + 1 => by
    rw [smK, lookup_putS]
    have e : inNm names (k + 1) s = (inNm names k s || decide (gs names k = s)) := by unfold inNm; rw [List.range_succ, List.any_append]; simp
    rw [e]
    by_cases h : s = gs names k
    · rw [if_pos h, decide_eq_true h.symm]; simp
    · rw [if_neg h, smK_look names s k, decide_eq_false (fun q => h q.symm)]; simp
theorem inNm_fd (names : List ByteArray) (s : ByteArray) : inNm names names.length s = !decide (fdN names s < 0) := by
  have h1 : decide (0 ≤ fdN names s) = (List.range names.length).any fun j => decide (s = gs names j) := firstIx_any _ _
  have h2 : inNm names names.length s = (List.range names.length).any fun j => decide (s = gs names j) := by
    unfold inNm
    congr 1
    funext j
    by_cases e : gs names j = s
    · rw [decide_eq_true e, decide_eq_true e.symm]
    · rw [decide_eq_false e, decide_eq_false fun q => e q.symm]
  rw [h2, ← h1]
  by_cases h : fdN names s < 0
  · rw [decide_eq_true h, decide_eq_false (by omega)]; rfl
  · rw [decide_eq_false h, decide_eq_true (by omega)]; rfl
theorem zero_bool (w : World) : (zeroValue 4).run Tryz.prog w = .ok (.bool false) w := by simp [Tryz.zeroValue4]
set_option maxRecDepth 100000 in
set_option maxHeartbeats 1000000 in
/-- Is the name of leaf k none of the names? -/
theorem of1_t (w : World) (S : Nat → Prop) (b8 bt mb : Nat) (np : Option Addr) (nc : Nat) (ns names : List ByteArray) (k : Nat) (h8 : w.cell? ⟨b8, 0, none⟩ = some (.map (some mb))) (hm : SMap w mb (smK names names.length)) (ht : w.cell? ⟨bt, 1, none⟩ = some (.slice np ns.length nc)) (hN : StrsAt S w (.slice np ns.length nc) ns) (hk : k < ns.length) :
    FnD 89 #[.pointer (some ⟨b8, 0, none⟩), .pointer (some ⟨bt, 0, none⟩)] #[.int .i64 (k : Int)] (.bool (decide (fdN names (gs ns k) < 0))) w := by
  intro m
  show Calls Tryz.prog 89 #[.int .i64 (k : Int), .pointer (some ⟨b8, 0, none⟩), .pointer (some ⟨bt, 0, none⟩)] (w.drewN m) _
  have hd := Up.drewN w m
  obtain ⟨nb, no, rfl, c4⟩ := strs_get hN hk
  have c1 := hd.cell h8
  have c2 := hd.cell ht
  have c4 := hd.cell c4
  have k1 : (0 : Int) ≤ (k : Int) := Int.natCast_nonneg _
  have k2 : (k : Int) < (ns.length : Int) := Int.ofNat_lt.2 hk
  have hlk : ∀ n, (Instr.lookup 110 (.map (some mb)) (.string (gs ns k)) false).run Tryz.prog ((w.drewN m).drewN n) = .ok (.bool (!decide (fdN names (gs ns k) < 0))) ((w.drewN m).drewN n) := fun n => by
    have hm2 : SMap ((w.drewN m).drewN n) mb (smK names names.length) := hm.same rfl
    have h := run_slook (P := Tryz.prog) Tryz.underlying110 Tryz.underlying9 (zero_bool _) hm2 (gs ns k)
    rw [smK_look, inNm_fd] at h
    exact h
  obtain ⟨W, hW⟩ : ∃ W, W = w.drewN m := ⟨_, rfl⟩
  have HW := Lib.hid hW
  rw [← hW] at c1 c2 c4 hlk ⊢
  clear hd h8 hm ht hN hk hW
  generalize gs ns k = s at *
  generalize decide (fdN names s < 0) = b at *
  go_enter Tryz.func89, Tryz.ntmps89
  go_wp2_with fail
  go_big_quiet (fail)
  go_wp2_with fail
  go_ret
  exact ⟨by cases b <;> rfl, m + nq, by rw [HW.out, World.drewN_drewN]⟩
end Go.Proofs.YtcbmbhghmfehpaaGreat
namespace Go.Proofs.YtcbmbhghmfehpaaGreat
open Go.RowKit Go.Deep
end Go.Proofs.YtcbmbhghmfehpaaGreat
namespace Go.Proofs.YtcbmbhghmfehpaaGreat
open Go.RowKit Go.Deep
set_option maxHeartbeats 400000 in
theorem rows_ix_d (g : Nat) (lb : Array Value) (eg : ∀ args w, (callFunc g args).run Tryz.prog w = .ok (.enter g args) w) (S : Nat → Prop) (w : World) (v : Value) (n : Nat) (f : Nat → Value) (p : Nat → Bool)
    (h : SlAt S w v n f) (hn : n ≤ 1000000) (hp : ∀ k, k < n → FnD g lb #[f k] (.bool (p k)) w) :
    Calls Tryz.prog 77 #[v, .func (.func g) #[] lb] w fun e w' => e = .returned (.int .i64 (firstIx p n)) ∧ ∃ q, w' = w.drewN q := by
  obtain ⟨q, cap, rfl, hcap, H⟩ := h.open
  have HP := Lib.hid hp
  clear h hp
  go_enter Tryz.func77, Tryz.ntmps77
  go_wp2_with fail
  go_loopw [5, 8] (fun _ i wr => ∃ k : Nat, k ≤ n ∧ i = .int .i64 k ∧ Hid (∀ j, j < k → p j = false) ∧ Hid (∃ m, wr = w.drewN m)) (fun _ i _ => n - (intOf i).toNat)
  case atStart => exact ⟨0, Nat.zero_le _, rfl, fun j hj => absurd hj (Nat.not_lt_zero _), 0, rfl⟩
  case round =>
    obtain ⟨k, hk, rfl, hd, hm⟩ := hrel
    obtain ⟨m, rfl⟩ := hm.out
    clear hm
    by_cases hlt : k < n
    · obtain ⟨b, off, rfl, hc⟩ := H k hlt
      have hc := (Up.drewN w m).cell hc
      clear H
      have hpk := HP.out k hlt
      unfold FnD at hpk
      have HPK := Lib.hid (hpk m)
      clear hpk HP
      generalize hv : p k = pk at *
      have HV := Lib.hid hv
      clear hv
      cases pk
      · go_wp2_with fail
        refine HPK.out.mono ?_
        rintro e w' ⟨rfl, m2, rfl⟩
        go_wp2_with fail
        go_roundw
        case rel => exact ⟨k + 1, by omega, by go_num, fun j hj => if e : j = k then by subst e; exact HV.out else hd.out j (by omega), m2, rfl⟩
        case measure => simp [intOf]; omega
      · go_wp2_with fail
        refine HPK.out.mono ?_
        rintro e w' ⟨rfl, m2, rfl⟩
        go_wp2_with fail
        go_ret
        exact ⟨ret_int (firstIx_at hlt hd.out HV.out).symm, m2, rfl⟩
    · clear H
      go_wp2_with fail
      go_ret
      exact ⟨ret_int (firstIx_none fun j hj => hd.out j (by omega)).symm, m, rfl⟩
set_option maxHeartbeats 400000 in
theorem rows_has_d (g : Nat) (lb : Array Value) (eg : ∀ args w, (callFunc g args).run Tryz.prog w = .ok (.enter g args) w) (S : Nat → Prop) (w : World) (v : Value) (n : Nat) (f : Nat → Value) (p : Nat → Bool)
    (h : SlAt S w v n f) (hn : n ≤ 1000000) (hp : ∀ k, k < n → FnD g lb #[f k] (.bool (p k)) w) :
    Calls Tryz.prog 20 #[v, .func (.func g) #[] lb] w fun e w' => e = .returned (.bool ((List.range n).any p)) ∧ ∃ q, w' = w.drewN q := by
  have hx := firstIx_any p n
  have HX := Lib.hid hx
  have HI := Lib.hid (rows_ix_d g lb eg S w v n f p h hn hp)
  obtain ⟨q, cap, rfl, -, -⟩ := SlAt.open h
  clear hx hp h eg
  go_enter Tryz.func20, Tryz.ntmps20
  go_wp2_with fail
  refine HI.out.mono ?_
  rintro e w' ⟨rfl, m, rfl⟩
  go_wp2_with fail
  go_ret
  exact ⟨ret_bool (by rw [← HX.out]), m, rfl⟩
end Go.Proofs.YtcbmbhghmfehpaaGreat
namespace Go.Proofs.YtcbmbhghmfehpaaGreat
open Go Go.RowKit Go.Deep
/-- A step of the iterator: what it does not own lies as it lay; it may own more: what is new. -/
structure OwnStep (L L' : Nat → Prop) (W W' : World) : Prop where
  os : W'.os = W.os
  tape : W'.tape = W.tape
  output : W'.output = W.output
  size : W.heap.size ≤ W'.heap.size
  block : ∀ b, b < W.heap.size → ¬ L b → W'.heap[b]? = W.heap[b]?
  more : ∀ b, L' b → (L b ∧ b < W.heap.size) ∨ (W.heap.size ≤ b ∧ b < W'.heap.size)
def AbL {α : Type} (J : List α → (Nat → Prop) → World → Prop) : Prop := ∀ s L L' W W', J s L W → OwnStep L L' W W' → J s L' W'
def SeqL {α : Type} (F : Fence) (n : Nat) (P : Program) (g : Nat) (lb : Array Value) (encs : α → Array Value) (Gv : α → (Nat → Prop) → World → Prop) (Gb : α → Nat → Prop) (S : List α → Prop) (N : Nat) (w w9 : World) (L0 : Nat → Prop) : Prop :=
  ∀ (l : Nat) (J : List α → (Nat → Prop) → World → Prop) (W : World), Below w.heap.size w W → (∀ b, L0 b → b < w9.heap.size ∧ W.heap[b]? = w9.heap[b]?) → w9.heap.size ≤ W.heap.size → AbL J →
    (∀ pre x L W1, J pre L W1 → Gv x L W1 → Below w.heap.size w W1 → (∀ b, L b → w.heap.size ≤ b ∧ b < W1.heap.size) → pre.length < N → YieldAt F (n - 1) P l (encs x) W1 fun e W' =>
      e = .returned (.bool true) ∧ J (pre ++ [x]) L W' ∧ Below w.heap.size w W' ∧ W1.heap.size ≤ W'.heap.size ∧ ∀ b, (L b ∨ Gb x b) → W'.heap[b]? = W1.heap[b]?) →
    J [] L0 W →
    CallsIn F n P g (#[.func (.yield l) #[] #[]] ++ lb) W fun e W' => (∃ v, e = .returned v) ∧ ∃ xs L, S xs ∧ J xs L W'
def ownPostL {α : Type} (B : Nat) (w0 : World) (I : List α → (Nat → Prop) → World → Prop) (xs : List α) (L Lk : Nat → Prop) (W : World) : Exit → Act → World → Prop
  | .normal, _, W' => KeepsFrom B W W' ∧ Below w0.heap.size w0 W' ∧ (∀ b, Lk b → W'.heap[b]? = W.heap[b]?) ∧ I xs L W'
  | _, _, _ => False
theorem wpIn_rangeL {α : Type} {F : Fence} {n : Nat} {P : Program} {w : World} {g : Operand} {ps : Array Tmp} {assign body : Code} {Q : Exit → Act → World → Prop} {a : Act}
    (hro : F.round = none) (h1 : 1 ≤ n) {gf : Nat} {lb : Array Value} (hg : a.eval g = .func (.func gf) #[] lb) (hFg : F.fn gf) (eg : ∀ args w, (callFunc gf args).run P w = .ok (.enter gf args) w)
    {encs : α → Array Value} {Gv : α → (Nat → Prop) → World → Prop} {Gb : α → Nat → Prop} {S : List α → Prop} {N : Nat} {w0 : World} {L0 : Nat → Prop} (hseq : SeqL F (n - 1) P gf lb encs Gv Gb S N w0 w L0) (hL0 : ∀ b, L0 b → b < w.heap.size) (hGb : ∀ x L W b, Gv x L W → Gb x b → ∃ o, W.heap[b]? = some o ∧ o.isCells = true) (hb0 : Below w0.heap.size w0 w) (hps : ∀ x, (encs x).size = ps.size)
    (hGv : ∀ x L, OwnFrom w.heap.size (fun (_ : Unit) W => Gv x L W))
    (I : List α → (Nat → Prop) → World → Prop) (hA : AbL I) (hI : ∀ L, OwnFrom w.heap.size (fun s W => I s L W)) (h0 : I [] L0 w) (a₁ : α → Act)
    (hassign : ∀ (l : Nat) (x : α) (W : World) (K : Act → World → Prop), K (a₁ x) W →
      assign.wpIn (F.inRound l) (n - 1 - 1) P (Exit.then K (fun _ _ _ => False)) { tmps := (ps.zip (encs x)).foldl (fun t (p, v) => t.setIfInBounds p v) a.tmps, defers := [] } W)
    (hbody : ∀ (l : Nat) (pre : List α) (x : α) (L : Nat → Prop) (W : World), I pre L W → Gv x L W → Below w0.heap.size w0 W → (∀ b, L b → w0.heap.size ≤ b ∧ b < W.heap.size) → pre.length < N → body.wpIn (F.inRound l) (n - 1 - 1) P (ownPostL w.heap.size w0 I (pre ++ [x]) L (fun b => L b ∨ Gb x b) W) (a₁ x) W)
    (hdone : ∀ (D : Nat) (xs : List α) (L : Nat → Prop) (W : World), w.heap.size ≤ D → S xs → I xs L W → W.heap[D]? = some (.deferred (some [])) → Q .normal { a with defers := { target := .collected D, args := #[] } :: a.defers } W) :
    (Code.rangeFunc g ps assign body).wpIn F n P Q a w := by
  refine wpIn_rangeFunc ?_
  intro fn hfn
  rw [hro]
  obtain ⟨rec, hrec⟩ : ∃ rec : LoopState → Option Code → Loop, rec = fun st pe => { state := st, pending := pe, fn, tmps := a.tmps, params := ps, assign, body, defers := w.heap.size } := ⟨_, rfl⟩
  obtain ⟨D, hD⟩ : ∃ D, D = w.heap.size := ⟨_, rfl⟩
  obtain ⟨W1, hW1⟩ : ∃ W1, (w.alloc (.deferred (some []))).alloc (.loop (rec .ready none)) = W1 := ⟨_, rfl⟩
  have hsz : W1.heap.size = D + 2 := by rw [← hW1, hD]; simp
  have hL1 : W1.heap[D + 1]? = some (.loop (rec .ready none)) := by
    rw [← hW1, hD]; have := World.alloc_heap_new (w.alloc (.deferred (some []))) (.loop (rec .ready none)); rwa [World.size_alloc] at this
  have hK1 : W1.heap[D]? = some (.deferred (some [])) := by
    rw [← hW1, hD]; exact (Below.heap_alloc _ _ _ (by simp)).trans (World.alloc_heap_new w _)
  have hI1 : I [] L0 W1 := by rw [← hW1]; exact (hI _).alloc _ ((hI _).alloc _ h0)
  have hb1 : Below w0.heap.size w0 W1 := by
    rw [← hW1]; exact hb0.trans ((((Below.refl _ w).alloc (Nat.le_refl _) _).alloc (by simp) _).mono hb0.size)
  have hb0s := hb0.size
  have putB : ∀ {W : World} (l : Nat) (o : Obj), D ≤ l → Below w0.heap.size w0 W → Below w0.heap.size w0 (W.putObj l o) := fun {W} l o hl hb =>
    ⟨hb.os, hb.tape, hb.output, by have := hb.size; simpa using this, fun b hbb => (World.putObj_heap_other (by omega)).trans (hb.block b hbb)⟩
  refine ⟨D + 1, [{ target := .collected D, args := #[] }], W1, { target := .fn (.func gf) lb, args := #[.func (.yield (D + 1)) #[] #[]] }, W1, gf,
    #[.func (.yield (D + 1)) #[] #[]] ++ lb, W1, ?_, ?_, ?_, ?_, fun _ => h1, ?_⟩
  · rw [← hW1, hrec, hD]; exact run_enterLoop_outer _ _ _ _ _
  · simp only [resolve, hg]
    simp [go_sem]
  · intro f' hf'; simp [Target.leads] at hf'; subst hf'; exact hFg
  · simp [invoke, go_sem, eg]
  · refine (hseq (D + 1) (fun pre L W => I pre L W ∧ W.heap[D + 1]? = some (.loop (rec .ready none)) ∧ W.heap[D]? = some (.deferred (some [])) ∧ ∀ b, L b → b ≠ D ∧ b ≠ D + 1) W1 hb1 (fun b hb => ⟨hL0 b hb, by rw [← hW1]; exact (Below.heap_alloc _ _ _ (by have := hL0 b hb; simp; omega)).trans (Below.heap_alloc _ _ _ (hL0 b hb))⟩) (by rw [hsz, ← hD]; omega) ?_ ?_ ⟨hI1, hL1, hK1, fun b h => by have := hL0 b h; omega⟩).mono ?_
    · rintro s L L' A B ⟨h1, h2, h3, h4⟩ hs
      have hlt := (Array.getElem?_eq_some_iff.1 h2).1
      refine ⟨hA s L L' A B h1 hs, (hs.block _ hlt fun e => ?_).trans h2, (hs.block _ (by omega) fun e => ?_).trans h3, fun b hb => ?_⟩
      · have := h4 _ e; omega
      · have := h4 _ e; omega
      · rcases hs.more b hb with e | e
        · exact h4 b e.1
        · omega
    · rintro pre x L W ⟨hi, hl, hk, hLb⟩ hgv hbw hLw hlen
      have hlt : D + 1 < W.heap.size := (Array.getElem?_eq_some_iff.1 hl).1
      have hy := run_yield (P := P) (args := encs x) hl (by rw [hrec]; exact hps x)
      rw [hrec] at hy
      refine ⟨fn, _, assign, body, hy, roundIn_of_wpIn hfn (hassign _ x W _ ⟨_, run_beginRound hl (by rw [hrec]), ?_⟩)⟩
      obtain ⟨W2, hW2⟩ : ∃ W2, W.putObj (D + 1) (.loop { rec .ready none with state := .busy }) = W2 := ⟨_, rfl⟩
      have hl2 : W2.heap[D + 1]? = some (.loop { rec .ready none with state := .busy }) := by rw [← hW2]; exact World.putObj_heap_same hlt
      have hk2 : W2.heap[D]? = some (.deferred (some [])) := by rw [← hW2]; exact (World.putObj_heap_other (by omega)).trans hk
      have hi2 : I pre L W2 := by rw [← hW2]; exact (hI L).putObj _ hi (by omega) hl rfl
      have hg2 : Gv x L W2 := by rw [← hW2]; exact (hGv x L).putObj (s := ()) _ hgv (by omega) hl rfl
      have hs2 : W2.heap.size = W.heap.size := by rw [← hW2]; simp
      have ho2 : ∀ b, b ≠ D + 1 → W2.heap[b]? = W.heap[b]? := fun b hb => by rw [← hW2]; exact World.putObj_heap_other (by omega)
      have hbw2 : Below w0.heap.size w0 W2 := by rw [← hW2]; exact putB _ _ (by omega) hbw
      rw [hW2]
      refine wpIn_mono (hbody _ pre x L W2 hi2 hg2 hbw2 (fun b hb => by rw [hs2]; exact hLw b hb) hlen) ?_
      rintro e a3 W3 hp
      cases e with
      | normal =>
        obtain ⟨hk3, hb3, hL3, hi3⟩ := hp
        have hl3 := hk3.same _ _ (by omega) hl2 rfl
        have hk4 := hk3.same _ _ (by omega) hk2 rfl
        have hend := run_endRound (P := P) none hl3
        rw [hrec] at hend
        refine ⟨_, _, hend, rfl, ⟨?_, ?_, ?_, hLb⟩, putB _ _ (by omega) hb3, ?_, fun b hb => ?_⟩
        · exact (hI L).putObj _ hi3 (by omega) hl3 rfl
        · rw [hrec]; exact World.putObj_heap_same (Array.getElem?_eq_some_iff.1 hl3).1
        · exact (World.putObj_heap_other (by omega)).trans hk4
        · have := hk3.size; simp; omega
        · have hne : b ≠ D + 1 := by
            rcases hb with hb | hb
            · have := hLb b hb; omega
            · rintro rfl
              obtain ⟨o, h1, h2⟩ := hGb _ _ _ _ hgv hb
              rw [hl] at h1; injection h1 with h1; subst h1; cases h2
          exact (World.putObj_heap_other (by omega)).trans ((hL3 b hb).trans (ho2 b (by omega)))
      | ret => exact hp.elim
      | exit id => exact hp.elim
      | goto t => exact hp.elim
      | panic ch => exact hp.elim
      | outgrown => exact hp.elim
    · rintro e W2 ⟨⟨v, rfl⟩, xs, L, hS, hi, hl, hk, hLb⟩
      exact ⟨none, _, by have := run_endLoop (P := P) hl (by rw [hrec]; simp); rw [hrec] at this; exact this, hdone D xs L _ (by omega) hS ((hI L).putObj _ hi (by omega) hl rfl) ((World.putObj_heap_other (by omega)).trans hk)⟩
end Go.Proofs.YtcbmbhghmfehpaaGreat
