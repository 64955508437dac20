/- The tree of splits: plain. The first pair that is not compatible; how many splits are of one tree only: plain. The laws SplitStates, SplitCompatible: plain. slices.IndexFunc and ContainsFunc at ints with a function that draws. split.Of: the map of names, the closure that asks it. -/
import Derived.Test.YtcbmbhghmfehpaaGreatQ24
import Derived.Test.YtcbmbhghmfehpaaGreatQ5
import Derived.Test.YtcbmbhghmfehpaaGreatQ2
import Derived.Test.YtcbmbhghmfehpaaGreatQ3
import Derived.Test.YtcbmbhghmfehpaaGreatQ16
namespace Go.Proofs.YtcbmbhghmfehpaaGreat
def bnErr (names : List ByteArray) (i : Nat) : Int := if namedB (gs names i).data.toList then (if seenK names i then 7 else 0) else 14
def bldErr (names : List ByteArray) (l : List (List Int)) : Int :=
  if names.length = 0 then 5 else if 32 < names.length ∨ 64 < l.length then 4
  else if firstNZ (bnErr names) names.length ≠ 0 then firstNZ (bnErr names) names.length
  else if firstNZ (fun k => splErr names.length (gl l k)) l.length ≠ 0 then firstNZ (fun k => splErr names.length (gl l k)) l.length
  else if 0 ≤ pairI l then 17 else 0
structure BldOk (names : List ByteArray) (l : List (List Int)) : Prop where
  pos : 0 < names.length
  le : names.length ≤ 32
  l64 : l.length ≤ 64
  nm : ∀ k, k < names.length → namedB (gs names k).data.toList = true
  nd : ∀ j k, j < k → k < names.length → gs names k ≠ gs names j
  spl : ∀ s ∈ l, SplOk names.length s
  cmp : ∀ i k, i < k → k < l.length → compB (gl l i) (gl l k) = true
theorem gl_in {l : List (List Int)} {k : Nat} (h : k < l.length) : gl l k ∈ l := by simp [gl, h]
theorem in_gl {l : List (List Int)} {x : List Int} (h : x ∈ l) : ∃ k, k < l.length ∧ gl l k = x := by
  obtain ⟨k, hk, e⟩ := List.mem_iff_getElem.1 h
  exact ⟨k, hk, by simp [gl, hk, e]⟩
theorem pair_none {l : List (List Int)} : pairI l < 0 ↔ ∀ i k, i < k → k < l.length → compB (gl l i) (gl l k) = true := by
  have h1 := firstIx_any (fun i => decide (0 ≤ rowPair l i)) l.length
  have h2 : ∀ i, decide (0 ≤ rowPair l i) = (List.range l.length).any fun k => decide (i < k) && !compB (gl l i) (gl l k) := fun i => firstIx_any _ _
  constructor
  · intro h i k hik hk
    have h3 : (List.range l.length).any (fun i => decide (0 ≤ rowPair l i)) = false := by
      rw [← h1]; exact decide_eq_false (by unfold pairI at h; omega)
    have h4 := any_false h3 (show i < l.length by omega)
    rw [h2] at h4
    have h5 := any_false h4 hk
    rw [decide_eq_true hik, Bool.true_and] at h5
    simpa using h5
  · intro h
    have h3 : (List.range l.length).any (fun i => decide (0 ≤ rowPair l i)) = false := any_none fun i hi => by
      rw [h2]
      refine any_none fun k hk => ?_
      by_cases e : i < k
      · rw [h i k e hk]; simp
      · rw [decide_eq_false e]; rfl
    rw [← h1] at h3
    have := of_decide_eq_false h3
    unfold pairI; omega
theorem bldErr_ok {names : List ByteArray} {l : List (List Int)} : bldErr names l = 0 ↔ BldOk names l := by
  unfold bldErr
  constructor
  · intro h
    split at h
    · cases h
    · split at h
      · cases h
      · split at h
        · rename_i h3; exact absurd h h3
        · rename_i h3
          have h3 := firstNZ_eq_zero (Classical.not_not.1 h3)
          split at h
          · rename_i h4; exact absurd h h4
          · rename_i h4
            have h4 := firstNZ_eq_zero (Classical.not_not.1 h4)
            split at h
            · cases h
            · rename_i h5
              refine ⟨by omega, by omega, by omega, fun k hk => ?_, fun j k hjk hk e => ?_, fun s hs => ?_, pair_none.1 (by omega)⟩
              · have := h3 k hk
                unfold bnErr at this
                split at this
                · assumption
                · cases this
              · have := h3 k hk
                unfold bnErr at this
                split at this
                · rw [if_pos] at this
                  · cases this
                  · exact List.any_eq_true.2 ⟨j, List.mem_range.2 hjk, decide_eq_true e.symm⟩
                · cases this
              · obtain ⟨k, hk, rfl⟩ := in_gl hs
                exact splErr_zero.1 (h4 k hk)
  · intro h
    have h1 := h.pos
    have h2 := h.le
    have h3 := h.l64
    have h4 : firstNZ (bnErr names) names.length = 0 := firstNZ_zero fun k hk => by
      unfold bnErr
      rw [if_pos (h.nm k hk), if_neg]
      intro e
      obtain ⟨j, hj, e⟩ := List.any_eq_true.1 e
      exact h.nd j k (List.mem_range.1 hj) hk (of_decide_eq_true e).symm
    have h5 : firstNZ (fun k => splErr names.length (gl l k)) l.length = 0 := firstNZ_zero fun k hk => splErr_zero.2 (h.spl _ (gl_in hk))
    have h6 := pair_none.2 h.cmp
    rw [if_neg (by omega), if_neg (by omega), if_neg (fun e => e h4), if_neg (fun e => e h5), if_neg (by omega)]
/-- Longer lists first. -/
def cmpQ (a b : List Int) : Int := if b.length < a.length then -1 else if a.length < b.length then 1 else cmpL a b
theorem cmpQ_zero {a b : List Int} (h : cmpQ a b = 0) : a = b := by
  unfold cmpQ at h
  split at h
  · omega
  · split at h
    · omega
    · exact cmpL_zero h
theorem cmpQ_self (a : List Int) : cmpQ a a = 0 := by unfold cmpQ; rw [if_neg (by omega), if_neg (by omega)]; exact cmpL_self a
theorem cmpQ_anti (a b : List Int) : cmpQ b a = - cmpQ a b := by
  unfold cmpQ
  by_cases h1 : b.length < a.length
  · simp only [if_pos h1, if_neg (show ¬ a.length < b.length by omega)]; rfl
  · by_cases h2 : a.length < b.length
    · simp only [if_pos h2, if_neg h1]
    · simp only [if_neg h1, if_neg h2]; exact cmpL_anti a b
theorem cmpQ_trans {a b c : List Int} (h1 : cmpQ a b < 0) (h2 : cmpQ b c < 0) : cmpQ a c < 0 := by
  unfold cmpQ at *
  by_cases x1 : b.length < a.length
  · by_cases y1 : c.length < b.length
    · rw [if_pos (by omega)]; omega
    · rw [if_neg y1] at h2
      by_cases y2 : b.length < c.length
      · rw [if_pos y2] at h2; omega
      · rw [if_pos (by omega)]; omega
  · rw [if_neg x1] at h1
    by_cases x2 : a.length < b.length
    · rw [if_pos x2] at h1; omega
    · rw [if_neg x2] at h1
      by_cases y1 : c.length < b.length
      · rw [if_pos (by omega)]; omega
      · rw [if_neg y1] at h2
        by_cases y2 : b.length < c.length
        · rw [if_pos y2] at h2; omega
        · rw [if_neg y2] at h2
          rw [if_neg (by omega), if_neg (by omega)]
          exact cmpL_trans h1 h2
def leQ (a b : List Int) : Prop := cmpQ a b ≤ 0
theorem leQ_trans {a b c : List Int} (h1 : leQ a b) (h2 : leQ b c) : leQ a c := by
  unfold leQ at *
  by_cases e1 : cmpQ a b = 0
  · rw [cmpQ_zero e1]; exact h2
  · by_cases e2 : cmpQ b c = 0
    · rw [← cmpQ_zero e2]; exact h1
    · have h3 : cmpQ a b < 0 := by omega
      have h4 : cmpQ b c < 0 := by omega
      exact Int.le_of_lt (cmpQ_trans h3 h4)
def insQ (a : List Int) : List (List Int) → List (List Int)
  | [] => [a]
  | b :: l => if cmpQ a b ≤ 0 then a :: b :: l else b :: insQ a l
def sortQ : List (List Int) → List (List Int)
  | [] => []
  | a :: l => insQ a (sortQ l)
theorem insQ_perm (a : List Int) : ∀ l : List (List Int), (insQ a l).Perm (a :: l)
  | [] => List.Perm.refl _
  | b :: l => by
    rw [insQ]
    split
    · exact List.Perm.refl _
    · exact (List.Perm.cons b (insQ_perm a l)).trans (List.Perm.swap a b l)
theorem sortQ_perm : ∀ l : List (List Int), (sortQ l).Perm l
  | [] => List.Perm.refl _
  | a :: l => (insQ_perm a _).trans (List.Perm.cons a (sortQ_perm l))
theorem insQ_sorted (a : List Int) : ∀ {l : List (List Int)}, l.Pairwise leQ → (insQ a l).Pairwise leQ
  | [], _ => by simp [insQ]
  | b :: l, h => by
    rw [insQ]
    rw [List.pairwise_cons] at h
    split
    · rename_i h1
      refine List.pairwise_cons.2 ⟨fun c hc => ?_, List.pairwise_cons.2 h⟩
      rcases List.mem_cons.1 hc with rfl | hc
      · exact h1
      · exact leQ_trans h1 (h.1 c hc)
    · rename_i h1
      refine List.pairwise_cons.2 ⟨fun c hc => ?_, insQ_sorted a h.2⟩
      rcases List.mem_cons.1 ((insQ_perm a l).mem_iff.1 hc) with rfl | hc
      · unfold leQ; have := cmpQ_anti c b; omega
      · exact h.1 c hc
theorem sortQ_sorted : ∀ l : List (List Int), (sortQ l).Pairwise leQ
  | [] => List.Pairwise.nil
  | a :: l => insQ_sorted a (sortQ_sorted l)
theorem sortQ_uniq {a b : List (List Int)} (hp : a.Perm b) (h : a.Pairwise leQ) : a = sortQ b :=
  List.Perm.eq_of_pairwise (le := leQ) (fun x y _ _ h1 h2 => cmpQ_zero (by unfold leQ at h1 h2; have := cmpQ_anti x y; omega)) h (sortQ_sorted b) (hp.trans (sortQ_perm b).symm)
/-- The splits, greater ones first, each once. -/
def ownQ (l : List (List Int)) : List (List Int) := cptX (sortQ l)
theorem mem_ownO {x : List Int} {l : List (List Int)} : x ∈ ownQ l ↔ x ∈ l := by unfold ownQ; rw [mem_cptX]; exact (sortQ_perm l).mem_iff
theorem cptQ_strict : ∀ {l : List (List Int)}, l.Pairwise leQ → (cptX l).Pairwise fun a b => cmpQ a b < 0
  | [], _ => List.Pairwise.nil
  | a :: l, h => by
    rw [List.pairwise_cons] at h
    rw [cptX]
    split
    · exact cptQ_strict h.2
    · rename_i hne
      refine List.pairwise_cons.2 ⟨fun c hc => ?_, cptQ_strict h.2⟩
      have hc := mem_cptX.1 hc
      have h1 := h.1 c hc
      unfold leQ at h1
      by_cases e : cmpQ a c = 0
      · exfalso
        have e := cmpQ_zero e
        subst e
        cases l with
        | nil => cases hc
        | cons b l =>
          rw [List.head?_cons] at hne
          have h2 := h.1 b (by simp)
          rcases List.mem_cons.1 hc with rfl | hc
          · exact hne rfl
          · have h3 := (List.pairwise_cons.1 h.2).1 _ hc
            unfold leQ at h2 h3
            have := cmpQ_anti a b
            exact hne (by rw [cmpQ_zero (a := a) (b := b) (by omega)])
      · omega
theorem ownQ_strict (l : List (List Int)) : (ownQ l).Pairwise fun a b => cmpQ a b < 0 := cptQ_strict (sortQ_sorted l)
theorem cptX_len : ∀ l : List (List Int), (cptX l).length ≤ l.length
  | [] => Nat.le_refl _
  | a :: l => by
    rw [cptX]
    have := cptX_len l
    split <;> simp <;> omega
theorem ownQ_len (l : List (List Int)) : (ownQ l).length ≤ l.length := by unfold ownQ; rw [← (sortQ_perm l).length_eq]; exact cptX_len _
/-- The place of the last of the first k lists that has x: its node; 2 if there is none. -/
def lastQ (own : List (List Int)) (x : Int) : Nat → Int
  | 0 => 2
  | k + 1 => if (gl own k).contains x then ((3 + k : Nat) : Int) else lastQ own x k
def bT (names : List ByteArray) (own : List (List Int)) : Tre :=
  ⟨[-1, 0, 0] ++ ((List.range own.length).map (fun k => lastQ own (gi (gl own k) 0) k) ++ (List.range (names.length - 1)).map fun b => lastQ own ((b + 1 : Nat) : Int) own.length),
   [ByteArray.empty, gs names 0, ByteArray.empty] ++ (List.replicate own.length ByteArray.empty ++ (List.range (names.length - 1)).map fun b => gs names (b + 1))⟩
def bldT (names : List ByteArray) (l : List (List Int)) : Tre :=
  if names.length = 1 then ⟨[-1], [gs names 0]⟩ else if names.length = 2 then canT ⟨[-1, 0, 0], [ByteArray.empty, gs names 0, gs names 1]⟩ else canT (bT names (ownQ l))
def bldR (names : List ByteArray) (l : List (List Int)) : Tre := if bldErr names l = 0 then bldT names l else ⟨[], []⟩
/-- The set of node i. -/
def bS (names : List ByteArray) (own : List (List Int)) (i : Nat) : List Int :=
  if i = 0 then allI names.length else if i = 1 then [0] else if i = 2 then complL names.length [0] else if i < 3 + own.length then gl own (i - 3) else [((i - 2 - own.length : Nat) : Int)]
theorem lastQ_spec (own : List (List Int)) (x : Int) : ∀ k, (lastQ own x k = 2 ∧ ∀ j, j < k → x ∉ gl own j) ∨ ∃ p, p < k ∧ lastQ own x k = ((3 + p : Nat) : Int) ∧ x ∈ gl own p ∧ ∀ j, p < j → j < k → x ∉ gl own j
  | 0 => .inl ⟨rfl, fun j hj => absurd hj (Nat.not_lt_zero _)⟩
  | k + 1 => by
    rw [lastQ]
    by_cases h : x ∈ gl own k
    · rw [if_pos (List.contains_iff_mem.2 h)]
      exact .inr ⟨k, by omega, rfl, h, fun j h1 h2 => by omega⟩
    · rw [if_neg (fun e => h (List.contains_iff_mem.1 e))]
      rcases lastQ_spec own x k with ⟨h1, h2⟩ | ⟨p, h1, h2, h3, h4⟩
      · refine .inl ⟨h1, fun j hj => ?_⟩
        by_cases e : j = k
        · subst e; exact h
        · exact h2 j (by omega)
      · refine .inr ⟨p, by omega, h2, h3, fun j hj1 hj2 => ?_⟩
        by_cases e : j = k
        · subst e; exact h
        · exact h4 j hj1 (by omega)
section
variable {names : List ByteArray} {l : List (List Int)}
theorem bT_len : (bT names (ownQ l)).ps.length = 3 + (ownQ l).length + (names.length - 1) := by simp [bT]; omega
theorem bT_nlen : (bT names (ownQ l)).ns.length = 3 + (ownQ l).length + (names.length - 1) := by simp [bT]; omega
theorem bT_ps {own : List (List Int)} (i : Nat) : gi (bT names own).ps i = if i = 0 then -1 else if i < 3 then 0 else if i < 3 + own.length then lastQ own (gi (gl own (i - 3)) 0) (i - 3) else if i < 3 + own.length + (names.length - 1) then lastQ own ((i - 2 - own.length : Nat) : Int) own.length else 0 := by
  by_cases h0 : i = 0
  · subst h0; rfl
  by_cases h1 : i = 1
  · subst h1; rfl
  by_cases h2 : i = 2
  · subst h2; rfl
  obtain ⟨j, rfl⟩ : ∃ j, i = 3 + j := ⟨i - 3, by omega⟩
  rw [if_neg h0, if_neg (by omega)]
  have e : gi (bT names own).ps (3 + j) = gi ((List.range own.length).map (fun k => lastQ own (gi (gl own k) 0) k) ++ (List.range (names.length - 1)).map fun b => lastQ own ((b + 1 : Nat) : Int) own.length) j := by
    have := gi_app_r [-1, 0, 0] ((List.range own.length).map (fun k => lastQ own (gi (gl own k) 0) k) ++ (List.range (names.length - 1)).map fun b => lastQ own ((b + 1 : Nat) : Int) own.length) j
    exact this
  rw [e]
  by_cases h3 : j < own.length
  · rw [if_pos (by omega), gi_app_l _ (by simpa using h3), show 3 + j - 3 = j by omega]
    simp [gi, h3]
  · rw [if_neg (by omega)]
    obtain ⟨b, rfl⟩ : ∃ b, j = own.length + b := ⟨j - own.length, by omega⟩
    have e2 := gi_app_r ((List.range own.length).map (fun k => lastQ own (gi (gl own k) 0) k)) ((List.range (names.length - 1)).map fun b => lastQ own ((b + 1 : Nat) : Int) own.length) b
    rw [List.length_map, List.length_range] at e2
    rw [e2]
    by_cases h4 : b < names.length - 1
    · rw [if_pos (by omega), show 3 + (own.length + b) - 2 - own.length = b + 1 by omega]
      simp [gi, h4]
    · rw [if_neg (by omega)]
      simp [gi, h4]
end
end Go.Proofs.YtcbmbhghmfehpaaGreat
namespace Go.Proofs.YtcbmbhghmfehpaaGreat
def hasL (b : List (List Int)) (s : List Int) : Bool := (List.range b.length).any fun j => decide (s = gl b j)
def onlyK (a b : List (List Int)) : Nat → Nat
  | 0 => 0
  | k + 1 => onlyK a b k + if hasL b (gl a k) then 0 else 1
def onlyN (a b : List (List Int)) : Nat := onlyK a b a.length
def distN (a b : List (List Int)) : Nat := onlyN a b + onlyN b a
theorem onlyK_le (a b : List (List Int)) : ∀ k, onlyK a b k ≤ k
  | 0 => Nat.le_refl _
  | k + 1 => by
    have := onlyK_le a b k
    rw [onlyK]; split <;> omega
theorem only_le (a b : List (List Int)) : onlyN a b ≤ a.length := onlyK_le a b _
end Go.Proofs.YtcbmbhghmfehpaaGreat
namespace Go.Proofs.YtcbmbhghmfehpaaGreat
def stP (bs : List Bool) : List Int := bs.map fun b => if b then 4 else 3
def stQ (bs : List Bool) : List Int := bs.map fun b => if b then 6 else 7
theorem stP_gi {bs : List Bool} {i : Nat} (hi : i < bs.length) : gi (stP bs) i = if gb bs i then 4 else 3 := by simp [stP, gi, gb, hi]
theorem stQ_gi {bs : List Bool} {i : Nat} (hi : i < bs.length) : gi (stQ bs) i = if gb bs i then 6 else 7 := by simp [stQ, gi, gb, hi]
theorem stP_len (bs : List Bool) : (stP bs).length = bs.length := List.length_map _
theorem stQ_len (bs : List Bool) : (stQ bs).length = bs.length := List.length_map _
theorem stP_ne {bs : List Bool} {i : Nat} (hi : i < bs.length) : gi (stP bs) i ≠ gi (stP bs) 0 ↔ gb bs i ≠ gb bs 0 := by
  rw [stP_gi hi, stP_gi (show 0 < bs.length by omega)]
  cases gb bs i <;> cases gb bs 0 <;> simp
theorem stQ_ne {bs : List Bool} {i : Nat} (hi : i < bs.length) : gi (stQ bs) i ≠ gi (stQ bs) 0 ↔ gb bs i ≠ gb bs 0 := by
  rw [stQ_gi hi, stQ_gi (show 0 < bs.length by omega)]
  cases gb bs i <;> cases gb bs 0 <;> simp
theorem os_err0 {st : List Int} (h : st.length ≤ 32) (hb : ∀ i, i < st.length → -1 ≤ gi st i ∧ gi st i < 16) : osErr st = 0 := by
  unfold osErr
  rw [if_neg (by omega)]
  have : (List.range st.length).any (fun j => badS (gi st j)) = false := any_none fun j hj => by
    have := hb j hj
    unfold badS; simp; omega
  rw [this]; rfl
theorem stP_err {bs : List Bool} (h : bs.length ≤ 32) : osErr (stP bs) = 0 := os_err0 (by rw [stP_len]; exact h) fun i hi => by
  rw [stP_len] at hi; rw [stP_gi hi]; cases gb bs i <;> simp
theorem stQ_err {bs : List Bool} (h : bs.length ≤ 32) : osErr (stQ bs) = 0 := os_err0 (by rw [stQ_len]; exact h) fun i hi => by
  rw [stQ_len] at hi; rw [stQ_gi hi]; cases gb bs i <;> simp
/-- Does the combination of states occur? -/
def snK (bs os : List Bool) (a b : Bool) (n : Nat) : Bool := (List.range n).any fun i => (gb bs i == a) && (gb os i == b)
theorem snK_iff {bs os : List Bool} {a b : Bool} {n : Nat} : snK bs os a b n = true ↔ ∃ i, i < n ∧ gb bs i = a ∧ gb os i = b := by
  unfold snK
  rw [List.any_eq_true]
  constructor
  · rintro ⟨i, hi, e⟩
    rw [Bool.and_eq_true, beq_iff_eq, beq_iff_eq] at e
    exact ⟨i, List.mem_range.1 hi, e⟩
  · rintro ⟨i, hi, e⟩
    exact ⟨i, List.mem_range.2 hi, by rw [Bool.and_eq_true, beq_iff_eq, beq_iff_eq]; exact e⟩
theorem snK_step (bs os : List Bool) (a b : Bool) (n : Nat) : snK bs os a b (n + 1) = (snK bs os a b n || ((gb bs n == a) && (gb os n == b))) := by
  unfold snK; rw [List.range_succ, List.any_append]; simp
theorem osO_spl {st : List Int} (h : osErr st = 0) (ho : OsOk st) : SplOk (st.length : Int) (osO st st.length) := by
  obtain ⟨h32, _⟩ := os_ge h
  refine ⟨⟨by have := ho.left; omega, by omega⟩, memK_ok _ (by omega), fun x hx => ?_, ⟨ho.many, by have := ho.left; omega⟩⟩
  obtain ⟨x0, x1, x2⟩ := mem_osO.1 hx
  refine ⟨?_, x1⟩
  by_cases e : x = 0
  · subst e; exact absurd rfl x2
  · omega
theorem bool_ne {a b c : Bool} (h1 : a ≠ c) (h2 : b ≠ c) : a = b := by cases a <;> cases b <;> cases c <;> simp_all
theorem states_law {bs os : List Bool} (hl : os.length = bs.length) (h1 : OsOk (stP bs)) (h2 : OsOk (stQ os)) (h32 : bs.length ≤ 32) :
    compB (osO (stP bs) bs.length) (osO (stQ os) os.length) = !(snK bs os false false bs.length && snK bs os false true bs.length && snK bs os true false bs.length && snK bs os true true bs.length) := by
  have hA := osO_spl (stP_err h32) h1
  have hB := osO_spl (stQ_err (by omega)) h2
  rw [stP_len] at hA
  rw [stQ_len] at hB
  have h0 : 0 < bs.length := by have := h1.left; rw [stP_len] at this; omega
  have mA : ∀ i, i < bs.length → ((i : Int) ∈ osO (stP bs) bs.length ↔ gb bs i ≠ gb bs 0) := fun i hi => by
    rw [mem_osO, Int.toNat_natCast, stP_ne hi]
    exact ⟨fun h => h.2.2, fun h => ⟨by omega, by omega, h⟩⟩
  have mB : ∀ i, i < bs.length → ((i : Int) ∈ osO (stQ os) os.length ↔ gb os i ≠ gb os 0) := fun i hi => by
    rw [mem_osO, Int.toNat_natCast, stQ_ne (by omega : i < os.length)]
    exact ⟨fun h => h.2.2, fun h => ⟨by omega, by omega, h⟩⟩
  have bA : ∀ x ∈ osO (stP bs) bs.length, ∃ i, i < bs.length ∧ x = (i : Int) := fun x hx => by
    obtain ⟨x0, x1, _⟩ := mem_osO.1 hx
    exact ⟨x.toNat, by omega, by omega⟩
  have bB : ∀ x ∈ osO (stQ os) os.length, ∃ i, i < bs.length ∧ x = (i : Int) := fun x hx => by
    obtain ⟨x0, x1, _⟩ := mem_osO.1 hx
    exact ⟨x.toNat, by omega, by omega⟩
  have hc := compB_iff hA.set hB.set
  have hseen : ∀ a b : Bool, snK bs os a b bs.length = true ↔ ∃ i, i < bs.length ∧ gb bs i = a ∧ gb os i = b := fun a b => snK_iff
  have hall : (snK bs os false false bs.length && snK bs os false true bs.length && snK bs os true false bs.length && snK bs os true true bs.length) = true ↔ ∀ a b : Bool, ∃ i, i < bs.length ∧ gb bs i = a ∧ gb os i = b := by
    rw [Bool.and_eq_true, Bool.and_eq_true, Bool.and_eq_true, hseen, hseen, hseen, hseen]
    constructor
    · rintro ⟨⟨⟨p, q⟩, r⟩, s⟩ a b
      cases a <;> cases b
      · exact p
      · exact q
      · exact r
      · exact s
    · intro h; exact ⟨⟨⟨h _ _, h _ _⟩, h _ _⟩, h _ _⟩
  rw [Bool.eq_iff_iff, hc, Bool.not_eq_true', ← Bool.not_eq_true, hall]
  constructor
  · intro h hx
    have p11 := hx (!(gb bs 0)) (!(gb os 0))
    have p10 := hx (!(gb bs 0)) (gb os 0)
    have p01 := hx (gb bs 0) (!(gb os 0))
    have nn : ∀ a : Bool, (!a) ≠ a := fun a => by cases a <;> simp
    rcases h with h | h | h
    · obtain ⟨i, hi, e1, e2⟩ := p11
      exact h i ((mA i hi).2 (by rw [e1]; exact nn _)) ((mB i hi).2 (by rw [e2]; exact nn _))
    · obtain ⟨i, hi, e1, e2⟩ := p10
      exact (mB i hi).1 (h i ((mA i hi).2 (by rw [e1]; exact nn _))) e2
    · obtain ⟨i, hi, e1, e2⟩ := p01
      exact (mA i hi).1 (h i ((mB i hi).2 (by rw [e2]; exact nn _))) e1
  · intro h
    by_cases d1 : ∀ x ∈ osO (stP bs) bs.length, x ∉ osO (stQ os) os.length
    · exact .inl d1
    by_cases d2 : ∀ x ∈ osO (stP bs) bs.length, x ∈ osO (stQ os) os.length
    · exact .inr (.inl d2)
    by_cases d3 : ∀ x ∈ osO (stQ os) os.length, x ∈ osO (stP bs) bs.length
    · exact .inr (.inr d3)
    exfalso; apply h
    simp only [Classical.not_forall, Classical.not_imp, Classical.not_not] at d1 d2 d3
    obtain ⟨x, x1, x2⟩ := d1
    obtain ⟨y, y1, y2⟩ := d2
    obtain ⟨z, z1, z2⟩ := d3
    obtain ⟨i, hi, rfl⟩ := bA x x1
    obtain ⟨j, hj, rfl⟩ := bA y y1
    obtain ⟨k, hk, rfl⟩ := bB z z1
    rw [mA i hi] at x1
    rw [mB i hi] at x2
    rw [mA j hj] at y1
    rw [mB j hj] at y2
    rw [mB k hk] at z1
    rw [mA k hk] at z2
    intro a b
    by_cases ea : a = gb bs 0
    · by_cases eb : b = gb os 0
      · exact ⟨0, h0, ea.symm, eb.symm⟩
      · exact ⟨k, hk, by rw [ea]; exact Classical.not_not.1 z2, bool_ne z1 eb⟩
    · by_cases eb : b = gb os 0
      · exact ⟨j, hj, bool_ne y1 ea, by rw [eb]; exact Classical.not_not.1 y2⟩
      · exact ⟨i, hi, bool_ne x1 ea, bool_ne x2 eb⟩
/-- How often numbers below n are in a as i says, and in b as j says. -/
def c4 (a b : List Int) (i j : Bool) : Nat → Nat
  | 0 => 0
  | n + 1 => c4 a b i j n + if (a.contains (n : Int) == i && b.contains (n : Int) == j) then 1 else 0
end Go.Proofs.YtcbmbhghmfehpaaGreat
namespace Go.Proofs.YtcbmbhghmfehpaaGreat
open Go.RowKit Go.Deep
def FnD (g : Nat) (lb args : Array Value) (res : Value) (w : World) : Prop := ∀ m, Calls Tryz.prog g (args ++ lb) (w.drewN m) fun e w' => e = .returned res ∧ ∃ q, w' = w.drewN q
set_option maxHeartbeats 400000 in
theorem ints_ix_d (g : Nat) (lb : Array Value) (eg : ∀ args w, (callFunc g args).run Tryz.prog w = .ok (.enter g args) w) (S : Nat → Prop) (w : World) (v : Value) (n : Nat) (f : Nat → Value) (p : Nat → Bool)
    (h : SlAt S w v n f) (hn : n ≤ 1000000) (hp : ∀ k, k < n → FnD g lb #[f k] (.bool (p k)) w) :
    Calls Tryz.prog 139 #[v, .func (.func g) #[] lb] w fun e w' => e = .returned (.int .i64 (firstIx p n)) ∧ ∃ q, w' = w.drewN q := by
  obtain ⟨q, cap, rfl, hcap, H⟩ := h.open
  have HP := Lib.hid hp
  clear h hp
  go_enter Tryz.func139, Tryz.ntmps139
  go_wp2_with fail
  go_loopw [5, 8] (fun _ i wr => ∃ k : Nat, k ≤ n ∧ i = .int .i64 k ∧ Hid (∀ j, j < k → p j = false) ∧ Hid (∃ m, wr = w.drewN m)) (fun _ i _ => n - (intOf i).toNat)
  case atStart => exact ⟨0, Nat.zero_le _, rfl, fun j hj => absurd hj (Nat.not_lt_zero _), 0, rfl⟩
  case round =>
    obtain ⟨k, hk, rfl, hd, hm⟩ := hrel
    obtain ⟨m, rfl⟩ := hm.out
    clear hm
    by_cases hlt : k < n
    · obtain ⟨b, off, rfl, hc⟩ := H k hlt
      have hc := (Up.drewN w m).cell hc
      clear H
      have hpk := HP.out k hlt
      unfold FnD at hpk
      have HPK := Lib.hid (hpk m)
      clear hpk HP
      generalize hv : p k = pk at *
      have HV := Lib.hid hv
      clear hv
      cases pk
      · go_wp2_with fail
        refine HPK.out.mono ?_
        rintro e w' ⟨rfl, m2, rfl⟩
        go_wp2_with fail
        go_roundw
        case rel => exact ⟨k + 1, by omega, by go_num, fun j hj => if e : j = k then by subst e; exact HV.out else hd.out j (by omega), m2, rfl⟩
        case measure => simp [intOf]; omega
      · go_wp2_with fail
        refine HPK.out.mono ?_
        rintro e w' ⟨rfl, m2, rfl⟩
        go_wp2_with fail
        go_ret
        exact ⟨ret_int (firstIx_at hlt hd.out HV.out).symm, m2, rfl⟩
    · clear H
      go_wp2_with fail
      go_ret
      exact ⟨ret_int (firstIx_none fun j hj => hd.out j (by omega)).symm, m, rfl⟩
set_option maxHeartbeats 400000 in
theorem ints_has_d (g : Nat) (lb : Array Value) (eg : ∀ args w, (callFunc g args).run Tryz.prog w = .ok (.enter g args) w) (S : Nat → Prop) (w : World) (v : Value) (n : Nat) (f : Nat → Value) (p : Nat → Bool)
    (h : SlAt S w v n f) (hn : n ≤ 1000000) (hp : ∀ k, k < n → FnD g lb #[f k] (.bool (p k)) w) :
    Calls Tryz.prog 70 #[v, .func (.func g) #[] lb] w fun e w' => e = .returned (.bool ((List.range n).any p)) ∧ ∃ q, w' = w.drewN q := by
  have hx := firstIx_any p n
  have HX := Lib.hid hx
  have HI := Lib.hid (ints_ix_d g lb eg S w v n f p h hn hp)
  obtain ⟨q, cap, rfl, -, -⟩ := SlAt.open h
  clear hx hp h eg
  go_enter Tryz.func70, Tryz.ntmps70
  go_wp2_with fail
  refine HI.out.mono ?_
  rintro e w' ⟨rfl, m, rfl⟩
  go_wp2_with fail
  go_ret
  exact ⟨ret_bool (by rw [← HX.out]), m, rfl⟩
end Go.Proofs.YtcbmbhghmfehpaaGreat
namespace Go.Proofs.YtcbmbhghmfehpaaGreat
open Go.RowKit Go.Deep
def smK (names : List ByteArray) : Nat → List (ByteArray × Value)
  | 0 => []
  | k + 1 => putS (smK names k) (gs names k) (.bool true)
def inNm (names : List ByteArray) (k : Nat) (s : ByteArray) : Bool := (List.range k).any fun j => decide (gs names j = s)
theorem smK_uniq (names : List ByteArray) : ∀ k, UniqS (smK names k)
  | 0 => List.nodup_nil
  | k + 1 => putS_uniq (smK_uniq names k) _ _
theorem smK_look (names : List ByteArray) (s : ByteArray) : ∀ k, ((smK names k).lookup s).getD (.bool false) = .bool (inNm names k s)
  | 0 => rfl
  | k + 1 => by
    rw [smK, lookup_putS]
    have e : inNm names (k + 1) s = (inNm names k s || decide (gs names k = s)) := by unfold inNm; rw [List.range_succ, List.any_append]; simp
    rw [e]
    by_cases h : s = gs names k
    · rw [if_pos h, decide_eq_true h.symm]; simp
    · rw [if_neg h, smK_look names s k, decide_eq_false (fun q => h q.symm)]; simp
theorem inNm_fd (names : List ByteArray) (s : ByteArray) : inNm names names.length s = !decide (fdN names s < 0) := by
  have h1 : decide (0 ≤ fdN names s) = (List.range names.length).any fun j => decide (s = gs names j) := firstIx_any _ _
  have h2 : inNm names names.length s = (List.range names.length).any fun j => decide (s = gs names j) := by
    unfold inNm
    congr 1
    funext j
    by_cases e : gs names j = s
    · rw [decide_eq_true e, decide_eq_true e.symm]
    · rw [decide_eq_false e, decide_eq_false fun q => e q.symm]
  rw [h2, ← h1]
  by_cases h : fdN names s < 0
  · rw [decide_eq_true h, decide_eq_false (by omega)]; rfl
  · rw [decide_eq_false h, decide_eq_true (by omega)]; rfl
theorem zero_bool (w : World) : (zeroValue 4).run Tryz.prog w = .ok (.bool false) w := by simp [Tryz.zeroValue4]
set_option maxRecDepth 100000 in
set_option maxHeartbeats 1000000 in
/-- Is the name of leaf k none of the names? -/
theorem of1_t (w : World) (S : Nat → Prop) (b8 bt mb : Nat) (np : Option Addr) (nc : Nat) (ns names : List ByteArray) (k : Nat) (h8 : w.cell? ⟨b8, 0, none⟩ = some (.map (some mb))) (hm : SMap w mb (smK names names.length)) (ht : w.cell? ⟨bt, 1, none⟩ = some (.slice np ns.length nc)) (hN : StrsAt S w (.slice np ns.length nc) ns) (hk : k < ns.length) :
    FnD 89 #[.pointer (some ⟨b8, 0, none⟩), .pointer (some ⟨bt, 0, none⟩)] #[.int .i64 (k : Int)] (.bool (decide (fdN names (gs ns k) < 0))) w := by
  intro m
  show Calls Tryz.prog 89 #[.int .i64 (k : Int), .pointer (some ⟨b8, 0, none⟩), .pointer (some ⟨bt, 0, none⟩)] (w.drewN m) _
  have hd := Up.drewN w m
  obtain ⟨nb, no, rfl, c4⟩ := strs_get hN hk
  have c1 := hd.cell h8
  have c2 := hd.cell ht
  have c4 := hd.cell c4
  have k1 : (0 : Int) ≤ (k : Int) := Int.natCast_nonneg _
  have k2 : (k : Int) < (ns.length : Int) := Int.ofNat_lt.2 hk
  have hlk : ∀ n, (Instr.lookup 110 (.map (some mb)) (.string (gs ns k)) false).run Tryz.prog ((w.drewN m).drewN n) = .ok (.bool (!decide (fdN names (gs ns k) < 0))) ((w.drewN m).drewN n) := fun n => by
    have hm2 : SMap ((w.drewN m).drewN n) mb (smK names names.length) := hm.same rfl
    have h := run_slook (P := Tryz.prog) Tryz.underlying110 Tryz.underlying9 (zero_bool _) hm2 (gs ns k)
    rw [smK_look, inNm_fd] at h
    exact h
  obtain ⟨W, hW⟩ : ∃ W, W = w.drewN m := ⟨_, rfl⟩
  have HW := Lib.hid hW
  rw [← hW] at c1 c2 c4 hlk ⊢
  clear hd h8 hm ht hN hk hW
  generalize gs ns k = s at *
  generalize decide (fdN names s < 0) = b at *
  go_enter Tryz.func89, Tryz.ntmps89
  go_wp2_with fail
  go_big_quiet (fail)
  go_wp2_with fail
  go_ret
  exact ⟨by cases b <;> rfl, m + nq, by rw [HW.out, World.drewN_drewN]⟩
end Go.Proofs.YtcbmbhghmfehpaaGreat
