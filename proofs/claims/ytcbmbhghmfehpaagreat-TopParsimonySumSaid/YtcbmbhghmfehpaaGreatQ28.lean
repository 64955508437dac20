/- The tree of splits: plain. -/
import Derived.Test.YtcbmbhghmfehpaaGreatQ27
namespace Go.Proofs.YtcbmbhghmfehpaaGreat
def bnErr (names : List ByteArray) (i : Nat) : Int := if namedB (gs names i).data.toList then (if seenK names i then 7 else 0) else 14
def bldErr (names : List ByteArray) (l : List (List Int)) : Int :=
  if names.length = 0 then 5 else if 32 < names.length ∨ 64 < l.length then 4
  else if firstNZ (bnErr names) names.length ≠ 0 then firstNZ (bnErr names) names.length
  else if firstNZ (fun k => splErr names.length (gl l k)) l.length ≠ 0 then firstNZ (fun k => splErr names.length (gl l k)) l.length
  else if 0 ≤ pairI l then 17 else 0
structure BldOk (names : List ByteArray) (l : List (List Int)) : Prop where
  pos : 0 < names.length
  le : names.length ≤ 32
  l64 : l.length ≤ 64
  nm : ∀ k, k < names.length → namedB (gs names k).data.toList = true
  nd : ∀ j k, j < k → k < names.length → gs names k ≠ gs names j
  spl : ∀ s ∈ l, SplOk names.length s
  cmp : ∀ i k, i < k → k < l.length → compB (gl l i) (gl l k) = true
theorem gl_in {l : List (List Int)} {k : Nat} (h : k < l.length) : gl l k ∈ l := by simp [gl, h]
theorem in_gl {l : List (List Int)} {x : List Int} (h : x ∈ l) : ∃ k, k < l.length ∧ gl l k = x := by
  obtain ⟨k, hk, e⟩ := List.mem_iff_getElem.1 h
  exact ⟨k, hk, by simp [gl, hk, e]⟩
theorem pair_none {l : List (List Int)} : pairI l < 0 ↔ ∀ i k, i < k → k < l.length → compB (gl l i) (gl l k) = true := by
  have h1 := firstIx_any (fun i => decide (0 ≤ rowPair l i)) l.length
  have h2 : ∀ i, decide (0 ≤ rowPair l i) = (List.range l.length).any fun k => decide (i < k) && !compB (gl l i) (gl l k) := fun i => firstIx_any _ _
  constructor
  · intro h i k hik hk
    have h3 : (List.range l.length).any (fun i => decide (0 ≤ rowPair l i)) = false := by
      rw [← h1]; exact decide_eq_false (by unfold pairI at h; omega)
    have h4 := any_false h3 (show i < l.length by omega)
    rw [h2] at h4
    have h5 := any_false h4 hk
    rw [decide_eq_true hik, Bool.true_and] at h5
    simpa using h5
  · intro h
    have h3 : (List.range l.length).any (fun i => decide (0 ≤ rowPair l i)) = false := any_none fun i hi => by
      rw [h2]
      refine any_none fun k hk => ?_
      by_cases e : i < k
      · rw [h i k e hk]; simp
      · rw [decide_eq_false e]; rfl
    rw [← h1] at h3
    have := of_decide_eq_false h3
    unfold pairI; omega
theorem bldErr_ok {names : List ByteArray} {l : List (List Int)} : bldErr names l = 0 ↔ BldOk names l := by
  unfold bldErr
  constructor
  · intro h
    split at h
    · cases h
    · split at h
      · cases h
      · split at h
        · rename_i h3; exact absurd h h3
        · rename_i h3
          have h3 := firstNZ_eq_zero (Classical.not_not.1 h3)
          split at h
          · rename_i h4; exact absurd h h4
          · rename_i h4
            have h4 := firstNZ_eq_zero (Classical.not_not.1 h4)
            split at h
            · cases h
            · rename_i h5
              refine ⟨by omega, by omega, by omega, fun k hk => ?_, fun j k hjk hk e => ?_, fun s hs => ?_, pair_none.1 (by omega)⟩
              · have := h3 k hk
                unfold bnErr at this
                split at this
                · assumption
                · cases this
              · have := h3 k hk
                unfold bnErr at this
                split at this
                · rw [if_pos] at this
                  · cases this
                  · exact List.any_eq_true.2 ⟨j, List.mem_range.2 hjk, decide_eq_true e.symm⟩
                · cases this
              · obtain ⟨k, hk, rfl⟩ := in_gl hs
                exact splErr_zero.1 (h4 k hk)
  · intro h
    have h1 := h.pos
    have h2 := h.le
    have h3 := h.l64
    have h4 : firstNZ (bnErr names) names.length = 0 := firstNZ_zero fun k hk => by
      unfold bnErr
      rw [if_pos (h.nm k hk), if_neg]
      intro e
      obtain ⟨j, hj, e⟩ := List.any_eq_true.1 e
      exact h.nd j k (List.mem_range.1 hj) hk (of_decide_eq_true e).symm
    have h5 : firstNZ (fun k => splErr names.length (gl l k)) l.length = 0 := firstNZ_zero fun k hk => splErr_zero.2 (h.spl _ (gl_in hk))
    have h6 := pair_none.2 h.cmp
    rw [if_neg (by omega), if_neg (by omega), if_neg (fun e => e h4), if_neg (fun e => e h5), if_neg (by omega)]
def cmpQ (a b : List Int) : Int := if b.length < a.length then -1 else if a.length < b.length then 1 else cmpL a b
theorem cmpQ_zero {a b : List Int} (h : cmpQ a b = 0) : a = b := by
  unfold cmpQ at h
  split at h
  · omega
  · split at h
    · omega
    · exact cmpL_zero h
theorem cmpQ_self (a : List Int) : cmpQ a a = 0 := by unfold cmpQ; rw [if_neg (by omega), if_neg (by omega)]; exact cmpL_self a
theorem cmpQ_anti (a b : List Int) : cmpQ b a = - cmpQ a b := by
  unfold cmpQ
  by_cases h1 : b.length < a.length
  · simp only [if_pos h1, if_neg (show ¬ a.length < b.length by omega)]; rfl
  · by_cases h2 : a.length < b.length
    · simp only [if_pos h2, if_neg h1]
    · simp only [if_neg h1, if_neg h2]; exact cmpL_anti a b
theorem cmpQ_trans {a b c : List Int} (h1 : cmpQ a b < 0) (h2 : cmpQ b c < 0) : cmpQ a c < 0 := by
  unfold cmpQ at *
  by_cases x1 : b.length < a.length
  · by_cases y1 : c.length < b.length
    · rw [if_pos (by omega)]; omega
    · rw [if_neg y1] at h2
      by_cases y2 : b.length < c.length
      · rw [if_pos y2] at h2; omega
      · rw [if_pos (by omega)]; omega
  · rw [if_neg x1] at h1
    by_cases x2 : a.length < b.length
    · rw [if_pos x2] at h1; omega
    · rw [if_neg x2] at h1
      by_cases y1 : c.length < b.length
      · rw [if_pos (by omega)]; omega
      · rw [if_neg y1] at h2
        by_cases y2 : b.length < c.length
        · rw [if_pos y2] at h2; omega
        · rw [if_neg y2] at h2
          rw [if_neg (by omega), if_neg (by omega)]
          exact cmpL_trans h1 h2
def leQ (a b : List Int) : Prop := cmpQ a b ≤ 0
theorem leQ_trans {a b c : List Int} (h1 : leQ a b) (h2 : leQ b c) : leQ a c := by
  unfold leQ at *
  by_cases e1 : cmpQ a b = 0
  · rw [cmpQ_zero e1]; exact h2
  · by_cases e2 : cmpQ b c = 0
    · rw [← cmpQ_zero e2]; exact h1
    · have h3 : cmpQ a b < 0 := by omega
      have h4 : cmpQ b c < 0 := by omega
      exact Int.le_of_lt (cmpQ_trans h3 h4)
def insQ (a : List Int) : List (List Int) → List (List Int)
  | [] => [a]
  | b :: l => if cmpQ a b ≤ 0 then a :: b :: l else b :: insQ a l
def sortQ : List (List Int) → List (List Int)
  | [] => []
  | a :: l => insQ a (sortQ l)
theorem insQ_perm (a : List Int) : ∀ l : List (List Int), (insQ a l).Perm (a :: l)
  | [] => List.Perm.refl _
  | b :: l => by
    rw [insQ]
    split
    · exact List.Perm.refl _
    · exact (List.Perm.cons b (insQ_perm a l)).trans (List.Perm.swap a b l)
theorem sortQ_perm : ∀ l : List (List Int), (sortQ l).Perm l
  | [] => List.Perm.refl _
  | a :: l => (insQ_perm a _).trans (List.Perm.cons a (sortQ_perm l))
theorem insQ_sorted (a : List Int) : ∀ {l : List (List Int)}, l.Pairwise leQ → (insQ a l).Pairwise leQ
  | [], _ => by simp [insQ]
  | b :: l, h => by
    rw [insQ]
    rw [List.pairwise_cons] at h
    split
    · rename_i h1
      refine List.pairwise_cons.2 ⟨fun c hc => ?_, List.pairwise_cons.2 h⟩
      rcases List.mem_cons.1 hc with rfl | hc
      · exact h1
      · exact leQ_trans h1 (h.1 c hc)
    · rename_i h1
      refine List.pairwise_cons.2 ⟨fun c hc => ?_, insQ_sorted a h.2⟩
      rcases List.mem_cons.1 ((insQ_perm a l).mem_iff.1 hc) with rfl | hc
      · unfold leQ; have := cmpQ_anti c b; omega
      · exact h.1 c hc
theorem sortQ_sorted : ∀ l : List (List Int), (sortQ l).Pairwise leQ
  | [] => List.Pairwise.nil
  | a :: l => insQ_sorted a (sortQ_sorted l)
theorem sortQ_uniq {a b : List (List Int)} (hp : a.Perm b) (h : a.Pairwise leQ) : a = sortQ b :=
  List.Perm.eq_of_pairwise (le := leQ) (fun x y _ _ h1 h2 => cmpQ_zero (by unfold leQ at h1 h2; have := cmpQ_anti x y; omega)) h (sortQ_sorted b) (hp.trans (sortQ_perm b).symm)
def ownQ (l : List (List Int)) : List (List Int) := cptX (sortQ l)
theorem mem_ownO {x : List Int} {l : List (List Int)} : x ∈ ownQ l ↔ x ∈ l := by unfold ownQ; rw [mem_cptX]; exact (sortQ_perm l).mem_iff
theorem cptQ_strict : ∀ {l : List (List Int)}, l.Pairwise leQ → (cptX l).Pairwise fun a b => cmpQ a b < 0
  | [], _ => List.Pairwise.nil
  | a :: l, h => by
    rw [List.pairwise_cons] at h
    rw [cptX]
    split
    · exact cptQ_strict h.2
    · rename_i hne
      refine List.pairwise_cons.2 ⟨fun c hc => ?_, cptQ_strict h.2⟩
      have hc := mem_cptX.1 hc
      have h1 := h.1 c hc
      unfold leQ at h1
      by_cases e : cmpQ a c = 0
      · exfalso
        have e := cmpQ_zero e
        subst e
        cases l with
        | nil => cases hc
        | cons b l =>
          rw [List.head?_cons] at hne
          have h2 := h.1 b (by simp)
          rcases List.mem_cons.1 hc with rfl | hc
          · exact hne rfl
          · have h3 := (List.pairwise_cons.1 h.2).1 _ hc
            unfold leQ at h2 h3
            have := cmpQ_anti a b
            exact hne (by rw [cmpQ_zero (a := a) (b := b) (by omega)])
      · omega
theorem ownQ_strict (l : List (List Int)) : (ownQ l).Pairwise fun a b => cmpQ a b < 0 := cptQ_strict (sortQ_sorted l)
theorem cptX_len : ∀ l : List (List Int), (cptX l).length ≤ l.length
  | [] => Nat.le_refl _
  | a :: l => by
    rw [cptX]
    have := cptX_len l
    split <;> simp <;> omega
theorem ownQ_len (l : List (List Int)) : (ownQ l).length ≤ l.length := by unfold ownQ; rw [← (sortQ_perm l).length_eq]; exact cptX_len _
def lastQ (own : List (List Int)) (x : Int) : Nat → Int
  | 0 => 2
  | k + 1 => if (gl own k).contains x then ((3 + k : Nat) : Int) else lastQ own x k
def bT (names : List ByteArray) (own : List (List Int)) : Tre :=
  ⟨[-1, 0, 0] ++ ((List.range own.length).map (fun k => lastQ own (gi (gl own k) 0) k) ++ (List.range (names.length - 1)).map fun b => lastQ own ((b + 1 : Nat) : Int) own.length),
   [ByteArray.empty, gs names 0, ByteArray.empty] ++ (List.replicate own.length ByteArray.empty ++ (List.range (names.length - 1)).map fun b => gs names (b + 1))⟩
def bldT (names : List ByteArray) (l : List (List Int)) : Tre :=
  if names.length = 1 then ⟨[-1], [gs names 0]⟩ else if names.length = 2 then canT ⟨[-1, 0, 0], [ByteArray.empty, gs names 0, gs names 1]⟩ else canT (bT names (ownQ l))
def bldR (names : List ByteArray) (l : List (List Int)) : Tre := if bldErr names l = 0 then bldT names l else ⟨[], []⟩
def bS (names : List ByteArray) (own : List (List Int)) (i : Nat) : List Int :=
  if i = 0 then allI names.length else if i = 1 then [0] else if i = 2 then complL names.length [0] else if i < 3 + own.length then gl own (i - 3) else [((i - 2 - own.length : Nat) : Int)]
theorem lastQ_spec (own : List (List Int)) (x : Int) : ∀ k, (lastQ own x k = 2 ∧ ∀ j, j < k → x ∉ gl own j) ∨ ∃ p, p < k ∧ lastQ own x k = ((3 + p : Nat) : Int) ∧ x ∈ gl own p ∧ ∀ j, p < j → j < k → x ∉ gl own j
  | 0 => .inl ⟨rfl, fun j hj => absurd hj (Nat.not_lt_zero _)⟩
  | k + 1 => by
    rw [lastQ]
    by_cases h : x ∈ gl own k
    · rw [if_pos (List.contains_iff_mem.2 h)]
      exact .inr ⟨k, by omega, rfl, h, fun j h1 h2 => by omega⟩
    · rw [if_neg (fun e => h (List.contains_iff_mem.1 e))]
      rcases lastQ_spec own x k with ⟨h1, h2⟩ | ⟨p, h1, h2, h3, h4⟩
      · refine .inl ⟨h1, fun j hj => ?_⟩
        by_cases e : j = k
        · subst e; exact h
        · exact h2 j (by omega)
      · refine .inr ⟨p, by omega, h2, h3, fun j hj1 hj2 => ?_⟩
        by_cases e : j = k
        · subst e; exact h
        · exact h4 j hj1 (by omega)
section
variable {names : List ByteArray} {l : List (List Int)}
theorem bT_len : (bT names (ownQ l)).ps.length = 3 + (ownQ l).length + (names.length - 1) := by simp [bT]; omega
theorem bT_nlen : (bT names (ownQ l)).ns.length = 3 + (ownQ l).length + (names.length - 1) := by simp [bT]; omega
theorem bT_ps {own : List (List Int)} (i : Nat) : gi (bT names own).ps i = if i = 0 then -1 else if i < 3 then 0 else if i < 3 + own.length then lastQ own (gi (gl own (i - 3)) 0) (i - 3) else if i < 3 + own.length + (names.length - 1) then lastQ own ((i - 2 - own.length : Nat) : Int) own.length else 0 := by
  by_cases h0 : i = 0
  · subst h0; rfl
  by_cases h1 : i = 1
  · subst h1; rfl
  by_cases h2 : i = 2
  · subst h2; rfl
  obtain ⟨j, rfl⟩ : ∃ j, i = 3 + j := ⟨i - 3, by omega⟩
  rw [if_neg h0, if_neg (by omega)]
  have e : gi (bT names own).ps (3 + j) = gi ((List.range own.length).map (fun k => lastQ own (gi (gl own k) 0) k) ++ (List.range (names.length - 1)).map fun b => lastQ own ((b + 1 : Nat) : Int) own.length) j := by
    have := gi_app_r [-1, 0, 0] ((List.range own.length).map (fun k => lastQ own (gi (gl own k) 0) k) ++ (List.range (names.length - 1)).map fun b => lastQ own ((b + 1 : Nat) : Int) own.length) j
    exact this
  rw [e]
  by_cases h3 : j < own.length
  · rw [if_pos (by omega), gi_app_l _ (by simpa using h3), show 3 + j - 3 = j by omega]
    simp [gi, h3]
  · rw [if_neg (by omega)]
    obtain ⟨b, rfl⟩ : ∃ b, j = own.length + b := ⟨j - own.length, by omega⟩
    have e2 := gi_app_r ((List.range own.length).map (fun k => lastQ own (gi (gl own k) 0) k)) ((List.range (names.length - 1)).map fun b => lastQ own ((b + 1 : Nat) : Int) own.length) b
    rw [List.length_map, List.length_range] at e2
    rw [e2]
    by_cases h4 : b < names.length - 1
    · rw [if_pos (by omega), show 3 + (own.length + b) - 2 - own.length = b + 1 by omega]
      simp [gi, h4]
    · rw [if_neg (by omega)]
      simp [gi, h4]
end
end Go.Proofs.YtcbmbhghmfehpaaGreat
