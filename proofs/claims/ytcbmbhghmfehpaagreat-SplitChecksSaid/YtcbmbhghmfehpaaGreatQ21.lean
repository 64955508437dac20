/- The tree of splits: plain. The first pair that is not compatible; how many splits are of one tree only: plain. The laws SplitStates, SplitCompatible: plain. What the reference implementations of layers 4 and 32 compute: plain. The contracts of layer 4's reference: Check, Has, bad, Intersect, Within. -/
import Derived.Test.YtcbmbhghmfehpaaGreatQ20
import Derived.Test.YtcbmbhghmfehpaaGreatQ4
import Derived.Test.YtcbmbhghmfehpaaGreatQ12
import Derived.Test.YtcbmbhghmfehpaaGreatQ3
namespace Go.Proofs.YtcbmbhghmfehpaaGreat
def bnErr (names : List ByteArray) (i : Nat) : Int := if namedB (gs names i).data.toList then (if seenK names i then 7 else 0) else 14
def bldErr (names : List ByteArray) (l : List (List Int)) : Int :=
  if names.length = 0 then 5 else if 32 < names.length ∨ 64 < l.length then 4
  else if firstNZ (bnErr names) names.length ≠ 0 then firstNZ (bnErr names) names.length
  else if firstNZ (fun k => splErr names.length (gl l k)) l.length ≠ 0 then firstNZ (fun k => splErr names.length (gl l k)) l.length
  else if 0 ≤ pairI l then 17 else 0
structure BldOk (names : List ByteArray) (l : List (List Int)) : Prop where
  pos : 0 < names.length
  le : names.length ≤ 32
  l64 : l.length ≤ 64
  nm : ∀ k, k < names.length → namedB (gs names k).data.toList = true
  nd : ∀ j k, j < k → k < names.length → gs names k ≠ gs names j
  spl : ∀ s ∈ l, SplOk names.length s
  cmp : ∀ i k, i < k → k < l.length → compB (gl l i) (gl l k) = true
theorem gl_in {l : List (List Int)} {k : Nat} (h : k < l.length) : gl l k ∈ l := by simp [gl, h]
theorem in_gl {l : List (List Int)} {x : List Int} (h : x ∈ l) : ∃ k, k < l.length ∧ gl l k = x := by
  obtain ⟨k, hk, e⟩ := List.mem_iff_getElem.1 h
  exact ⟨k, hk, by simp [gl, hk, e]⟩
theorem pair_none {l : List (List Int)} : pairI l < 0 ↔ ∀ i k, i < k → k < l.length → compB (gl l i) (gl l k) = true := by
  have h1 := firstIx_any (fun i => decide (0 ≤ rowPair l i)) l.length
  have h2 : ∀ i, decide (0 ≤ rowPair l i) = (List.range l.length).any fun k => decide (i < k) && !compB (gl l i) (gl l k) := fun i => firstIx_any _ _
  constructor
  · intro h i k hik hk
    have h3 : (List.range l.length).any (fun i => decide (0 ≤ rowPair l i)) = false := by
      rw [← h1]; exact decide_eq_false (by unfold pairI at h; omega)
    have h4 := any_false h3 (show i < l.length by omega)
    rw [h2] at h4
    have h5 := any_false h4 hk
    rw [decide_eq_true hik, Bool.true_and] at h5
    simpa using h5
  · intro h
    have h3 : (List.range l.length).any (fun i => decide (0 ≤ rowPair l i)) = false := any_none fun i hi => by
      rw [h2]
      refine any_none fun k hk => ?_
      by_cases e : i < k
      · rw [h i k e hk]; simp
      · rw [decide_eq_false e]; rfl
    rw [← h1] at h3
    have := of_decide_eq_false h3
    unfold pairI; omega
theorem bldErr_ok {names : List ByteArray} {l : List (List Int)} : bldErr names l = 0 ↔ BldOk names l := by
  unfold bldErr
  constructor
  · intro h
    split at h
    · cases h
    · split at h
      · cases h
      · split at h
        · rename_i h3; exact absurd h h3
        · rename_i h3
          have h3 := firstNZ_eq_zero (Classical.not_not.1 h3)
          split at h
          · rename_i h4; exact absurd h h4
          · rename_i h4
            have h4 := firstNZ_eq_zero (Classical.not_not.1 h4)
            split at h
            · cases h
            · rename_i h5
              refine ⟨by omega, by omega, by omega, fun k hk => ?_, fun j k hjk hk e => ?_, fun s hs => ?_, pair_none.1 (by omega)⟩
              · have := h3 k hk
                unfold bnErr at this
                split at this
                · assumption
                · cases this
              · have := h3 k hk
                unfold bnErr at this
                split at this
                · rw [if_pos] at this
                  · cases this
                  · exact List.any_eq_true.2 ⟨j, List.mem_range.2 hjk, decide_eq_true e.symm⟩
                · cases this
              · obtain ⟨k, hk, rfl⟩ := in_gl hs
                exact splErr_zero.1 (h4 k hk)
  · intro h
    have h1 := h.pos
    have h2 := h.le
    have h3 := h.l64
    have h4 : firstNZ (bnErr names) names.length = 0 := firstNZ_zero fun k hk => by
      unfold bnErr
      rw [if_pos (h.nm k hk), if_neg]
      intro e
      obtain ⟨j, hj, e⟩ := List.any_eq_true.1 e
      exact h.nd j k (List.mem_range.1 hj) hk (of_decide_eq_true e).symm
    have h5 : firstNZ (fun k => splErr names.length (gl l k)) l.length = 0 := firstNZ_zero fun k hk => splErr_zero.2 (h.spl _ (gl_in hk))
    have h6 := pair_none.2 h.cmp
    rw [if_neg (by omega), if_neg (by omega), if_neg (fun e => e h4), if_neg (fun e => e h5), if_neg (by omega)]
def cmpQ (a b : List Int) : Int := if b.length < a.length then -1 else if a.length < b.length then 1 else cmpL a b
theorem cmpQ_zero {a b : List Int} (h : cmpQ a b = 0) : a = b := by
  unfold cmpQ at h
  split at h
  · omega
  · split at h
    · omega
    · exact cmpL_zero h
theorem cmpQ_self (a : List Int) : cmpQ a a = 0 := by unfold cmpQ; rw [if_neg (by omega), if_neg (by omega)]; exact cmpL_self a
theorem cmpQ_anti (a b : List Int) : cmpQ b a = - cmpQ a b := by
  unfold cmpQ
  by_cases h1 : b.length < a.length
  · simp only [if_pos h1, if_neg (show ¬ a.length < b.length by omega)]; rfl
  · by_cases h2 : a.length < b.length
    · simp only [if_pos h2, if_neg h1]
    · simp only [if_neg h1, if_neg h2]; exact cmpL_anti a b
theorem cmpQ_trans {a b c : List Int} (h1 : cmpQ a b < 0) (h2 : cmpQ b c < 0) : cmpQ a c < 0 := by
  unfold cmpQ at *
  by_cases x1 : b.length < a.length
  · by_cases y1 : c.length < b.length
    · rw [if_pos (by omega)]; omega
    · rw [if_neg y1] at h2
      by_cases y2 : b.length < c.length
      · rw [if_pos y2] at h2; omega
      · rw [if_pos (by omega)]; omega
  · rw [if_neg x1] at h1
    by_cases x2 : a.length < b.length
    · rw [if_pos x2] at h1; omega
    · rw [if_neg x2] at h1
      by_cases y1 : c.length < b.length
      · rw [if_pos (by omega)]; omega
      · rw [if_neg y1] at h2
        by_cases y2 : b.length < c.length
        · rw [if_pos y2] at h2; omega
        · rw [if_neg y2] at h2
          rw [if_neg (by omega), if_neg (by omega)]
          exact cmpL_trans h1 h2
def leQ (a b : List Int) : Prop := cmpQ a b ≤ 0
theorem leQ_trans {a b c : List Int} (h1 : leQ a b) (h2 : leQ b c) : leQ a c := by
  unfold leQ at *
  by_cases e1 : cmpQ a b = 0
  · rw [cmpQ_zero e1]; exact h2
  · by_cases e2 : cmpQ b c = 0
    · rw [← cmpQ_zero e2]; exact h1
    · have h3 : cmpQ a b < 0 := by omega
      have h4 : cmpQ b c < 0 := by omega
      exact Int.le_of_lt (cmpQ_trans h3 h4)
def insQ (a : List Int) : List (List Int) → List (List Int)
  | [] => [a]
  | b :: l => if cmpQ a b ≤ 0 then a :: b :: l else b :: insQ a l
def sortQ : List (List Int) → List (List Int)
  | [] => []
  | a :: l => insQ a (sortQ l)
theorem insQ_perm (a : List Int) : ∀ l : List (List Int), (insQ a l).Perm (a :: l)
  | [] => List.Perm.refl _
  | b :: l => by
    rw [insQ]
    split
    · exact List.Perm.refl _
    · exact (List.Perm.cons b (insQ_perm a l)).trans (List.Perm.swap a b l)
theorem sortQ_perm : ∀ l : List (List Int), (sortQ l).Perm l
  | [] => List.Perm.refl _
  | a :: l => (insQ_perm a _).trans (List.Perm.cons a (sortQ_perm l))
theorem insQ_sorted (a : List Int) : ∀ {l : List (List Int)}, l.Pairwise leQ → (insQ a l).Pairwise leQ
  | [], _ => by simp [insQ]
  | b :: l, h => by
    rw [insQ]
    rw [List.pairwise_cons] at h
    split
    · rename_i h1
      refine List.pairwise_cons.2 ⟨fun c hc => ?_, List.pairwise_cons.2 h⟩
      rcases List.mem_cons.1 hc with rfl | hc
      · exact h1
      · exact leQ_trans h1 (h.1 c hc)
    · rename_i h1
      refine List.pairwise_cons.2 ⟨fun c hc => ?_, insQ_sorted a h.2⟩
      rcases List.mem_cons.1 ((insQ_perm a l).mem_iff.1 hc) with rfl | hc
      · unfold leQ; have := cmpQ_anti c b; omega
      · exact h.1 c hc
theorem sortQ_sorted : ∀ l : List (List Int), (sortQ l).Pairwise leQ
  | [] => List.Pairwise.nil
  | a :: l => insQ_sorted a (sortQ_sorted l)
theorem sortQ_uniq {a b : List (List Int)} (hp : a.Perm b) (h : a.Pairwise leQ) : a = sortQ b :=
  List.Perm.eq_of_pairwise (le := leQ) (fun x y _ _ h1 h2 => cmpQ_zero (by unfold leQ at h1 h2; have := cmpQ_anti x y; omega)) h (sortQ_sorted b) (hp.trans (sortQ_perm b).symm)
def ownQ (l : List (List Int)) : List (List Int) := cptX (sortQ l)
theorem mem_ownO {x : List Int} {l : List (List Int)} : x ∈ ownQ l ↔ x ∈ l := by unfold ownQ; rw [mem_cptX]; exact (sortQ_perm l).mem_iff
theorem cptQ_strict : ∀ {l : List (List Int)}, l.Pairwise leQ → (cptX l).Pairwise fun a b => cmpQ a b < 0
  | [], _ => List.Pairwise.nil
  | a :: l, h => by
    rw [List.pairwise_cons] at h
    rw [cptX]
    split
    · exact cptQ_strict h.2
    · rename_i hne
      refine List.pairwise_cons.2 ⟨fun c hc => ?_, cptQ_strict h.2⟩
      have hc := mem_cptX.1 hc
      have h1 := h.1 c hc
      unfold leQ at h1
      by_cases e : cmpQ a c = 0
      · exfalso
        have e := cmpQ_zero e
        subst e
        cases l with
        | nil => cases hc
        | cons b l =>
          rw [List.head?_cons] at hne
          have h2 := h.1 b (by simp)
          rcases List.mem_cons.1 hc with rfl | hc
          · exact hne rfl
          · have h3 := (List.pairwise_cons.1 h.2).1 _ hc
            unfold leQ at h2 h3
            have := cmpQ_anti a b
            exact hne (by rw [cmpQ_zero (a := a) (b := b) (by omega)])
      · omega
theorem ownQ_strict (l : List (List Int)) : (ownQ l).Pairwise fun a b => cmpQ a b < 0 := cptQ_strict (sortQ_sorted l)
theorem cptX_len : ∀ l : List (List Int), (cptX l).length ≤ l.length
  | [] => Nat.le_refl _
  | a :: l => by
    rw [cptX]
    have := cptX_len l
    split <;> simp <;> omega
theorem ownQ_len (l : List (List Int)) : (ownQ l).length ≤ l.length := by unfold ownQ; rw [← (sortQ_perm l).length_eq]; exact cptX_len _
def lastQ (own : List (List Int)) (x : Int) : Nat → Int
  | 0 => 2
  | k + 1 => if (gl own k).contains x then ((3 + k : Nat) : Int) else lastQ own x k
def bT (names : List ByteArray) (own : List (List Int)) : Tre :=
  ⟨[-1, 0, 0] ++ ((List.range own.length).map (fun k => lastQ own (gi (gl own k) 0) k) ++ (List.range (names.length - 1)).map fun b => lastQ own ((b + 1 : Nat) : Int) own.length),
   [ByteArray.empty, gs names 0, ByteArray.empty] ++ (List.replicate own.length ByteArray.empty ++ (List.range (names.length - 1)).map fun b => gs names (b + 1))⟩
def bldT (names : List ByteArray) (l : List (List Int)) : Tre :=
  if names.length = 1 then ⟨[-1], [gs names 0]⟩ else if names.length = 2 then canT ⟨[-1, 0, 0], [ByteArray.empty, gs names 0, gs names 1]⟩ else canT (bT names (ownQ l))
def bldR (names : List ByteArray) (l : List (List Int)) : Tre := if bldErr names l = 0 then bldT names l else ⟨[], []⟩
def bS (names : List ByteArray) (own : List (List Int)) (i : Nat) : List Int :=
  if i = 0 then allI names.length else if i = 1 then [0] else if i = 2 then complL names.length [0] else if i < 3 + own.length then gl own (i - 3) else [((i - 2 - own.length : Nat) : Int)]
theorem lastQ_spec (own : List (List Int)) (x : Int) : ∀ k, (lastQ own x k = 2 ∧ ∀ j, j < k → x ∉ gl own j) ∨ ∃ p, p < k ∧ lastQ own x k = ((3 + p : Nat) : Int) ∧ x ∈ gl own p ∧ ∀ j, p < j → j < k → x ∉ gl own j
  | 0 => .inl ⟨rfl, fun j hj => absurd hj (Nat.not_lt_zero _)⟩
  | k + 1 => by
    rw [lastQ]
    by_cases h : x ∈ gl own k
    · rw [if_pos (List.contains_iff_mem.2 h)]
      exact .inr ⟨k, by omega, rfl, h, fun j h1 h2 => by omega⟩
    · rw [if_neg (fun e => h (List.contains_iff_mem.1 e))]
      rcases lastQ_spec own x k with ⟨h1, h2⟩ | ⟨p, h1, h2, h3, h4⟩
      · refine .inl ⟨h1, fun j hj => ?_⟩
        by_cases e : j = k
        · subst e; exact h
        · exact h2 j (by omega)
      · refine .inr ⟨p, by omega, h2, h3, fun j hj1 hj2 => ?_⟩
        by_cases e : j = k
        · subst e; exact h
        · exact h4 j hj1 (by omega)
section
variable {names : List ByteArray} {l : List (List Int)}
theorem bT_len : (bT names (ownQ l)).ps.length = 3 + (ownQ l).length + (names.length - 1) := by simp [bT]; omega
theorem bT_nlen : (bT names (ownQ l)).ns.length = 3 + (ownQ l).length + (names.length - 1) := by simp [bT]; omega
theorem bT_ps {own : List (List Int)} (i : Nat) : gi (bT names own).ps i = if i = 0 then -1 else if i < 3 then 0 else if i < 3 + own.length then lastQ own (gi (gl own (i - 3)) 0) (i - 3) else if i < 3 + own.length + (names.length - 1) then lastQ own ((i - 2 - own.length : Nat) : Int) own.length else 0 := by
  by_cases h0 : i = 0
  · subst h0; rfl
  by_cases h1 : i = 1
  · subst h1; rfl
  by_cases h2 : i = 2
  · subst h2; rfl
  obtain ⟨j, rfl⟩ : ∃ j, i = 3 + j := ⟨i - 3, by omega⟩
  rw [if_neg h0, if_neg (by omega)]
  have e : gi (bT names own).ps (3 + j) = gi ((List.range own.length).map (fun k => lastQ own (gi (gl own k) 0) k) ++ (List.range (names.length - 1)).map fun b => lastQ own ((b + 1 : Nat) : Int) own.length) j := by
    have := gi_app_r [-1, 0, 0] ((List.range own.length).map (fun k => lastQ own (gi (gl own k) 0) k) ++ (List.range (names.length - 1)).map fun b => lastQ own ((b + 1 : Nat) : Int) own.length) j
    exact this
  rw [e]
  by_cases h3 : j < own.length
  · rw [if_pos (by omega), gi_app_l _ (by simpa using h3), show 3 + j - 3 = j by omega]
    simp [gi, h3]
  · rw [if_neg (by omega)]
    obtain ⟨b, rfl⟩ : ∃ b, j = own.length + b := ⟨j - own.length, by omega⟩
    have e2 := gi_app_r ((List.range own.length).map (fun k => lastQ own (gi (gl own k) 0) k)) ((List.range (names.length - 1)).map fun b => lastQ own ((b + 1 : Nat) : Int) own.length) b
    rw [List.length_map, List.length_range] at e2
    rw [e2]
    by_cases h4 : b < names.length - 1
    · rw [if_pos (by omega), show 3 + (own.length + b) - 2 - own.length = b + 1 by omega]
      simp [gi, h4]
    · rw [if_neg (by omega)]
      simp [gi, h4]
end
end Go.Proofs.YtcbmbhghmfehpaaGreat
namespace Go.Proofs.YtcbmbhghmfehpaaGreat
def allErr (n : Int) (l : List (List Int)) : Int := if 64 < l.length then 4 else if n < 1 ∨ 32 < n then 2 else firstNZ (fun k => splErr n (gl l k)) l.length
def hasL (b : List (List Int)) (s : List Int) : Bool := (List.range b.length).any fun j => decide (s = gl b j)
def onlyK (a b : List (List Int)) : Nat → Nat
  | 0 => 0
  | k + 1 => onlyK a b k + if hasL b (gl a k) then 0 else 1
def onlyN (a b : List (List Int)) : Nat := onlyK a b a.length
def distN (a b : List (List Int)) : Nat := onlyN a b + onlyN b a
theorem onlyK_le (a b : List (List Int)) : ∀ k, onlyK a b k ≤ k
  | 0 => Nat.le_refl _
  | k + 1 => by
    have := onlyK_le a b k
    rw [onlyK]; split <;> omega
theorem only_le (a b : List (List Int)) : onlyN a b ≤ a.length := onlyK_le a b _
end Go.Proofs.YtcbmbhghmfehpaaGreat
namespace Go.Proofs.YtcbmbhghmfehpaaGreat
def c4 (a b : List Int) (i j : Bool) : Nat → Nat
  | 0 => 0
  | n + 1 => c4 a b i j n + if (a.contains (n : Int) == i && b.contains (n : Int) == j) then 1 else 0
end Go.Proofs.YtcbmbhghmfehpaaGreat
namespace Go.Proofs.YtcbmbhghmfehpaaGreat
def outB (n : Int) (s : List Int) (i : Nat) : Bool := decide (gi s i = 0) || decide (n ≤ gi s i)
theorem splErr_ref (n : Int) (s : List Int) : splErr n s = if n < 1 ∨ 32 < n then 2 else if setErr s ≠ 0 then setErr s else if (List.range s.length).any (outB n s) then 2 else if (s.length : Int) < 2 ∨ n - 2 < s.length then 8 else 0 := by
  unfold splErr
  by_cases c1 : n < 1 ∨ 32 < n
  · rw [if_pos c1, if_pos c1]
  rw [if_neg c1, if_neg c1]
  by_cases c2 : setErr s = 0
  · have hs := setErr_zero.1 c2
    have hc : ¬ (setErr s ≠ 0) := fun e => e c2
    rw [if_neg hc, if_neg hc]
    have key : (0 < s.length ∧ (gi s 0 = 0 ∨ n ≤ gi s (s.length - 1))) ↔ (List.range s.length).any (outB n s) = true := by
      rw [List.any_eq_true]
      constructor
      · rintro ⟨h0, h | h⟩
        · exact ⟨0, List.mem_range.2 h0, by unfold outB; rw [decide_eq_true h]; rfl⟩
        · exact ⟨s.length - 1, List.mem_range.2 (by omega), by unfold outB; rw [decide_eq_true h]; simp⟩
      · rintro ⟨i, hi, e⟩
        have hi := List.mem_range.1 hi
        have hb := set_last hs (gi_in hi)
        have h63 := hs.bd _ (gi_in (show 0 < s.length by omega))
        unfold outB at e
        rw [Bool.or_eq_true, decide_eq_true_eq, decide_eq_true_eq] at e
        refine ⟨by omega, ?_⟩
        rcases e with e | e
        · exact .inl (by omega)
        · exact .inr (by omega)
    by_cases c3 : 0 < s.length ∧ (gi s 0 = 0 ∨ n ≤ gi s (s.length - 1))
    · rw [if_pos c3, if_pos (key.1 c3)]
    · rw [if_neg c3, if_neg (fun e => c3 (key.2 e))]
  · rw [if_pos c2, if_pos c2]
def subB (a b : List Int) : Bool := a.all fun x => b.contains x
theorem subB_iff {a b : List Int} : subB a b = true ↔ ∀ x ∈ a, x ∈ b := by
  unfold subB
  rw [List.all_eq_true]
  exact ⟨fun h x hx => List.contains_iff_mem.1 (h x hx), fun h x hx => List.contains_iff_mem.2 (h x hx)⟩
theorem fit_comp {a b : List Int} (ha : SetOk a) (hb : SetOk b) : (decide ((a.filter (fun x => b.contains x)).length = 0) || (subB a b || subB b a)) = compB a b := by
  rw [Bool.eq_iff_iff, compB_iff ha hb, Bool.or_eq_true, Bool.or_eq_true, decide_eq_true_eq, subB_iff, subB_iff]
  have : (a.filter (fun x => b.contains x)).length = 0 ↔ ∀ x ∈ a, x ∉ b := by
    rw [List.length_eq_zero_iff, List.filter_eq_nil_iff]
    exact ⟨fun h x hx hy => h x hx (List.contains_iff_mem.2 hy), fun h x hx e => h x hx (List.contains_iff_mem.1 e)⟩
  rw [this]
theorem os_ref {st : List Int} (h : osErr st = 0) : osB st = ((List.range st.length).all (fun i => decide (0 ≤ gi st i)) &&
    ((List.range (osO st st.length).length).all (fun i => decide (gi st (gi (osO st st.length) i).toNat = gi st (gi (osO st st.length) 0).toNat)) && (decide (2 ≤ (osO st st.length).length) && decide ((osO st st.length).length + 2 ≤ st.length)))) := by
  rw [Bool.eq_iff_iff, os_iff h]
  simp only [Bool.and_eq_true, List.all_eq_true, decide_eq_true_eq, List.mem_range]
  have ex : ∀ i, i < (osO st st.length).length → ∃ q : Nat, gi (osO st st.length) i = (q : Int) ∧ q < st.length ∧ gi st q ≠ gi st 0 := fun i hi => by
    obtain ⟨x0, x1, x2⟩ := mem_osO.1 (gi_in hi)
    exact ⟨(gi (osO st st.length) i).toNat, by omega, by omega, x2⟩
  have xe : ∀ q, q < st.length → gi st q ≠ gi st 0 → ∃ i, i < (osO st st.length).length ∧ gi (osO st st.length) i = (q : Int) := fun q hq e => by
    have hm : (q : Int) ∈ osO st st.length := mem_osO.2 ⟨by omega, by omega, by rw [Int.toNat_natCast]; exact e⟩
    exact in_gi hm
  constructor
  · intro ho
    refine ⟨ho.known, fun i hi => ?_, ho.many, ho.left⟩
    obtain ⟨q, e, q1, q2⟩ := ex i hi
    obtain ⟨r, f, r1, r2⟩ := ex 0 (by omega)
    rw [e, f, Int.toNat_natCast, Int.toNat_natCast]
    exact ho.two q r q1 r1 q2 r2
  · rintro ⟨k, t, m, l⟩
    refine ⟨k, fun i j hi hj ei ej => ?_, m, l⟩
    obtain ⟨x, x1, x2⟩ := xe i hi ei
    obtain ⟨y, y1, y2⟩ := xe j hj ej
    have e1 := t x x1
    have e2 := t y y1
    rw [x2, Int.toNat_natCast] at e1
    rw [y2, Int.toNat_natCast] at e2
    rw [e1, e2]
end Go.Proofs.YtcbmbhghmfehpaaGreat
namespace Go.Proofs.YtcbmbhghmfehpaaGreat
open Go.RowKit Go.Deep
set_option maxRecDepth 100000 in
set_option maxHeartbeats 2000000 in
theorem chk04_t (S : Nat → Prop) (w : World) (v : Value) (l : List Int) (h : IntsAt S w v l) (hn : l.length ≤ 1000000) :
    Calls Tryz.prog 128 #[v] w fun e w' => e = .returned (.int .i64 (setErr l)) ∧ QD w w' := by
  have HF : Hid (setErr l = firstNZ (setBad l) l.length) := rfl
  have HB : Hid (∀ i, setBad l i = if gi l i < 0 ∨ 63 < gi l i then 2 else if 0 < i ∧ gi l i ≤ gi l (i - 1) then 10 else 0) := fun _ => rfl
  obtain ⟨p, cap, rfl, -, -⟩ := SlAt.open h
  have H : Hid (IntsAt S w (.slice p l.length cap) l) := h
  clear h
  go_enter Tryz.func128, Tryz.ntmps128
  go_wp2_with fail
  go_loopw [3] (fun i wr => ∃ k : Nat, k ≤ l.length ∧ i = .int .i64 k ∧ Hid (QD w wr) ∧ Hid (∀ j, j < k → setBad l j = 0)) (fun i _ => l.length - (intOf i).toNat)
  case atStart => exact ⟨0, Nat.zero_le _, rfl, QD.refl _, fun j hj => absurd hj (Nat.not_lt_zero _)⟩
  case round =>
    obtain ⟨k, hk, rfl, hQ, hd⟩ := hrel
    obtain ⟨wo, rfl⟩ : ∃ wo : World, wo = wr := ⟨_, rfl⟩
    by_cases hlt : k < l.length
    · obtain ⟨b, off, rfl, hc⟩ := ints_get (IntsAt.keep H.out (hQ.out.kept S)) hlt
      have HK := Lib.hid (HB.out k)
      have HP : Hid (0 < k → wo.cell? ⟨b, off + (k - 1), none⟩ = some (.int .i64 (gi l (k - 1)))) := fun h0 => by
        obtain ⟨b2, off2, e, hc2⟩ := ints_get (IntsAt.keep H.out (hQ.out.kept S)) (k := k - 1) (by omega)
        cases e; exact hc2
      have HAT : Hid (∀ r, setBad l k = r → r ≠ 0 → setErr l = r) := fun r e h0 => by rw [HF.out, firstNZ_at hlt hd.out (by rw [e]; exact h0), e]
      have HGO : Hid (setBad l k = 0 → ∀ j, j < k + 1 → setBad l j = 0) := fun e j hj => if ej : j = k then by subst ej; exact e else hd.out j (by omega)
      have HLT := Lib.hid hlt
      have i1 : (0 : Int) ≤ (k : Int) := by omega
      have i2 : (k : Int) < (l.length : Int) := by omega
      have i3 : (k : Int) < 1000000 := by omega
      generalize gi l k = x at *
      generalize gi l (k - 1) = y at *
      by_cases h1 : x < 0
      · have e1 : decide (x < 0) = true := decide_eq_true h1
        have HR := Lib.hid (HAT.out 2 (by rw [HK.out, if_pos (.inl h1)]) (by decide))
        clear h1
        go_wp2_with fail
        go_ret
        exact ⟨ret_int (by rw [HR.out]), hQ.out⟩
      have e1 : decide (x < 0) = false := decide_eq_false h1
      by_cases h2 : 63 < x
      · have e2 : decide (63 < x) = true := decide_eq_true h2
        have HR := Lib.hid (HAT.out 2 (by rw [HK.out, if_pos (.inr h2)]) (by decide))
        clear h1 h2
        go_wp2_with fail
        go_ret
        exact ⟨ret_int (by rw [HR.out]), hQ.out⟩
      have e2 : decide (63 < x) = false := decide_eq_false h2
      have HX : Hid (¬ (x < 0 ∨ 63 < x)) := by unfold Hid; omega
      clear h1 h2 hlt hk
      by_cases h0 : k = 0
      · have d0 : decide ((0 : Int) < (k : Int)) = false := decide_eq_false (by omega)
        have d1 : decide (0 < k) = false := decide_eq_false (by omega)
        have HR := Lib.hid (HGO.out (by rw [HK.out, if_neg HX.out, if_neg (by omega)]))
        clear h0
        go_wp2_with fail
        go_big_quiet (fail)
        go_wp2_with fail
        go_roundw
        case rel => exact ⟨k + 1, HLT.out, by go_num, hQ.out.drewN nq, HR.out⟩
        case measure => have := HLT.out; simp [intOf]; omega
      · have hcp := HP.out (by omega)
        have d0 : decide ((0 : Int) < (k : Int)) = true := decide_eq_true (by omega)
        have d1 : decide (0 < k) = true := decide_eq_true (by omega)
        have k1 : (k : Int) - 1 = ((k - 1 : Nat) : Int) := by omega
        have k2 : (0 : Int) ≤ ((k - 1 : Nat) : Int) := by omega
        have k3 : ((k - 1 : Nat) : Int) < (l.length : Int) := by omega
        by_cases h3 : x ≤ y
        · have e3 : decide (x ≤ y) = true := decide_eq_true h3
          have HR := Lib.hid (HAT.out 10 (by rw [HK.out, if_neg HX.out, if_pos ⟨by omega, h3⟩]) (by decide))
          clear h0 h3
          go_wp2_with fail
          go_big_quiet (fail)
          go_wp2_with fail
          go_ret
          exact ⟨ret_int (by rw [HR.out]), hQ.out.drewN nq⟩
        · have e3 : decide (x ≤ y) = false := decide_eq_false h3
          have HR := Lib.hid (HGO.out (by rw [HK.out, if_neg HX.out, if_neg (fun q => h3 q.2)]))
          clear h0 h3
          go_wp2_with fail
          go_big_quiet (fail)
          go_wp2_with fail
          go_roundw
          case rel => exact ⟨k + 1, HLT.out, by clear k1; go_num, hQ.out.drewN nq, HR.out⟩
          case measure => have := HLT.out; clear k1; simp [intOf]; omega
    · obtain rfl : k = l.length := by omega
      have HR : Hid (setErr l = 0) := by unfold Hid; rw [HF.out, firstNZ_zero hd.out]
      clear hlt hk
      go_wp2_with fail
      go_ret
      exact ⟨ret_int (by rw [HR.out]), hQ.out⟩
theorem qd_tr {a b c : World} (h : QD a b) (k : QD b c) : QD a c := by
  obtain ⟨m, rfl⟩ := h
  obtain ⟨n, rfl⟩ := k
  exact ⟨m + n, by rw [World.drewN_drewN]⟩
theorem cont_at {l : List Int} {x : Int} {k : Nat} (hk : k < l.length) (e : gi l k = x) : l.contains x = true := List.contains_iff_mem.2 (by rw [← e]; exact gi_in hk)
theorem cont_no {l : List Int} {x : Int} (h : ∀ j, j < l.length → gi l j ≠ x) : l.contains x = false := by
  rw [Bool.eq_false_iff]
  intro e
  obtain ⟨k, hk, e2⟩ := in_gi (List.contains_iff_mem.1 e)
  exact h k hk e2
set_option maxRecDepth 100000 in
set_option maxHeartbeats 400000 in
theorem has04_t (S : Nat → Prop) (w : World) (v : Value) (l : List Int) (x : Int) (h : IntsAt S w v l) (hn : l.length ≤ 1000000) :
    Calls Tryz.prog 113 #[v, .int .i64 x] w fun e w' => e = .returned (.bool (l.contains x)) ∧ w = w' := by
  obtain ⟨p, cap, rfl, -, -⟩ := SlAt.open h
  have H : Hid (IntsAt S w (.slice p l.length cap) l) := h
  have HT : Hid (∀ k, k < l.length → gi l k = x → l.contains x = true) := fun k hk e => cont_at hk e
  have HF : Hid ((∀ j, j < l.length → gi l j ≠ x) → l.contains x = false) := fun h => cont_no h
  clear h
  generalize l.contains x = r at *
  go_enter Tryz.func113, Tryz.ntmps113
  go_wp2_with fail
  go_loop [5] (fun i => ∃ k : Nat, k ≤ l.length ∧ i = .int .i64 k ∧ Hid (∀ j, j < k → gi l j ≠ x)) (fun i => l.length - (intOf i).toNat)
  case atStart => exact ⟨0, Nat.zero_le _, rfl, fun j hj => absurd hj (Nat.not_lt_zero _)⟩
  case round =>
    obtain ⟨k, hk, rfl, hd⟩ := hrel
    by_cases hlt : k < l.length
    · obtain ⟨b, off, rfl, hc⟩ := ints_get H.out hlt
      have i1 : (0 : Int) ≤ (k : Int) := by omega
      have i2 : (k : Int) < (l.length : Int) := by omega
      have HTK := Lib.hid (HT.out k hlt)
      have HGO : Hid (gi l k ≠ x → ∀ j, j < k + 1 → gi l j ≠ x) := fun e j hj => if ej : j = k then by subst ej; exact e else hd.out j (by omega)
      generalize gi l k = y at *
      by_cases h1 : y = x
      · have e1 : (y == x) = true := by simpa using h1
        have HR := Lib.hid (HTK.out h1)
        clear h1
        go_wp2_with fail
        go_ret
        exact ⟨ret_bool HR.out.symm, rfl⟩
      · have e1 : (y == x) = false := by simpa using h1
        have HR := Lib.hid (HGO.out h1)
        clear h1
        go_wp2_with fail
        go_round
        case rel => exact ⟨k + 1, by omega, by go_num, HR.out⟩
        case measure => simp [intOf]; omega
    · obtain rfl : k = l.length := by omega
      have HR := Lib.hid (HF.out hd.out)
      clear hlt hk
      go_wp2_with fail
      go_ret
      exact ⟨ret_bool HR.out.symm, rfl⟩
set_option maxRecDepth 100000 in
theorem bad04_t (S T : Nat → Prop) (w : World) (v u : Value) (a b : List Int) (h : IntsAt S w v a) (h2 : IntsAt T w u b) (hn : a.length ≤ 1000000) (hm : b.length ≤ 1000000) (ha : SetOk a) (hb : SetOk b) :
    Calls Tryz.prog 214 #[v, u] w fun e w' => e = .returned (.bool false) ∧ QD w w' := by
  have H1 := Lib.hid (chk04_t S w v a h hn)
  have H2 : Hid (∀ W, QD w W → Calls Tryz.prog 128 #[u] W fun e w' => e = .returned (.int .i64 (setErr b)) ∧ QD W w') := fun W hW => chk04_t T W u b (IntsAt.keep h2 (hW.kept _)) hm
  rw [setErr_zero.2 ha] at H1
  rw [setErr_zero.2 hb] at H2
  obtain ⟨p, cap, rfl, -, -⟩ := SlAt.open h
  obtain ⟨q, caq, rfl, -, -⟩ := SlAt.open h2
  clear h h2
  go_enter Tryz.func214, Tryz.ntmps214
  go_wp2_with fail
  refine H1.out.mono ?_
  rintro e w1 ⟨rfl, hq1⟩
  have HQ1 := Lib.hid hq1
  clear hq1
  go_wp2_with fail
  refine (H2.out w1 HQ1.out).mono ?_
  rintro e w2 ⟨rfl, hq2⟩
  have HQ2 : Hid (QD w w2) := qd_tr HQ1.out hq2
  clear hq2
  go_wp2_with fail
  go_ret
  exact ⟨rfl, HQ2.out⟩
def filK (a b : List Int) (k : Nat) : List Int := (a.take k).filter fun x => b.contains x
theorem filt_take {a b : List Int} {k : Nat} (hk : k < a.length) : filK a b (k + 1) = filK a b k ++ if b.contains (gi a k) then [gi a k] else [] := by
  unfold filK
  have hg : gi a k = a[k] := by simp [gi, hk]
  rw [List.take_succ_eq_append_getElem hk, List.filter_append, ← hg]
  congr 1
  cases h : b.contains (gi a k)
  · rw [List.filter_cons_of_neg (by rw [h]; decide)]; rfl
  · rw [List.filter_cons_of_pos h]; rfl
set_option maxRecDepth 100000 in
set_option maxHeartbeats 1000000 in
theorem inter04_t (S T : Nat → Prop) (w : World) (v u : Value) (a b : List Int) (h : IntsAt S w v a) (h2 : IntsAt T w u b) (hn : a.length ≤ 1000000) (hm : b.length ≤ 1000000) (ha : SetOk a) (hb : SetOk b) :
    Calls Tryz.prog 184 #[v, u] w fun e w' => Up w w' ∧ ∃ x, e = .returned (.tuple #[x, .int .i64 0]) ∧ IntsAt Any w' x (a.filter fun x => b.contains x) := by
  have H1 := Lib.hid (bad04_t S T w v u a b h h2 hn hm ha hb)
  obtain ⟨p, cap, rfl, -, -⟩ := SlAt.open h
  obtain ⟨q, caq, rfl, -, -⟩ := SlAt.open h2
  have HA : Hid (IntsAt S w (.slice p a.length cap) a) := h
  have HH : Hid (∀ W (x : Int), Up w W → Calls Tryz.prog 113 #[.slice q b.length caq, .int .i64 x] W fun e w' => e = .returned (.bool (b.contains x)) ∧ W = w') := fun W x hW => has04_t T W _ b x (IntsAt.keep h2 (hW.kept _)) hm
  clear h h2 ha hb
  go_enter Tryz.func184, Tryz.ntmps184
  go_wp2_with fail
  refine H1.out.mono ?_
  rintro e w1 ⟨rfl, hq1⟩
  have HU1 := Lib.hid hq1.up
  have HM := Lib.hid (Owns.made w1 3)
  clear hq1 H1
  go_wp2_with fail
  go_loopw [6, 7] (fun o i wr => ∃ k : Nat, k ≤ a.length ∧ i = .int .i64 k ∧ Hid (Owns w1.heap.size 3 wr o ((filK a b k).map (Value.int .i64))) ∧ Hid (Up w1 wr)) (fun _ i _ => a.length - (intOf i).toNat)
  case atStart => exact ⟨0, Nat.zero_le _, rfl, HM.out, Up.alloc _ _⟩
  case round =>
    obtain ⟨k, hk, rfl, hO, hUr⟩ := hrel
    obtain ⟨wo, rfl⟩ : ∃ wo : World, wo = wr := ⟨_, rfl⟩
    by_cases hlt : k < a.length
    · obtain ⟨b1, off, rfl, hc⟩ := ints_get (IntsAt.keep HA.out ((HU1.out.trans hUr.out).kept S)) hlt
      have HFT := Lib.hid (filt_take (b := b) hlt)
      have HHK := Lib.hid (HH.out wo (gi a k) (HU1.out.trans hUr.out))
      have i1 : (0 : Int) ≤ (k : Int) := by omega
      have i2 : (k : Int) < (a.length : Int) := by omega
      have i3 : (k : Int) < 1000000 := by omega
      have HLT := Lib.hid hlt
      have hsz := hUr.out.size
      have HLL : Hid (((filK a b k).map (Value.int .i64)).length = (filK a b k).length) := List.length_map _
      have HL6 : Hid ((filK a b k).length ≤ 1000000) := by
        have h1 : (filK a b k).length ≤ (a.take k).length := List.length_filter_le _ _
        rw [List.length_take] at h1; unfold Hid; omega
      have HUA := Lib.hid hUr.out
      cases hcc : b.contains (gi a k)
      · rw [hcc] at HHK
        have HS : Hid (filK a b (k + 1) = filK a b k) := by unfold Hid; rw [HFT.out, hcc]; simp
        clear hlt hk hUr hcc HFT
        generalize gi a k = x at *
        go_wp2_with fail
        refine HHK.out.mono ?_
        rintro e w' ⟨rfl, rfl⟩
        go_wp2_with fail
        go_roundw
        case rel => exact ⟨k + 1, HLT.out, by go_num, by unfold Hid; rw [HS.out]; exact hO.out, HUA.out⟩
        case measure => have := HLT.out; simp [intOf]; omega
      · rw [hcc] at HHK
        have HS : Hid (filK a b (k + 1) = filK a b k ++ [gi a k]) := by unfold Hid; rw [HFT.out, hcc]; simp
        clear hlt hk hUr hcc HFT
        generalize gi a k = x at *
        go_wp2_with fail
        refine HHK.out.mono ?_
        rintro e w' ⟨rfl, rfl⟩
        go_wp2_with (at_builtin; refine wpList_appM wo rfl _ _ 26 rfl w1.heap.size 3 (.int .i64 0) 8 Tryz.underlying26 Tryz.infoI rfl (by decide) hO.out rfl (.int .i64 x) _ rfl rfl rfl _ HLL.out HL6.out hsz ?_; intro g8 cap8 w8 hown1 hgr1 hbe1)
        go_roundw
        case rel => exact ⟨k + 1, HLT.out, by go_num, by unfold Hid; rw [HS.out, List.map_append]; exact hown1, Below.trans HUA.out hbe1⟩
        case measure => have := HLT.out; simp [intOf]; omega
    · obtain rfl : k = a.length := by omega
      have hO2 := hO.out
      unfold filK at hO2
      rw [List.take_length] at hO2
      have HR := Lib.hid (IntsAt.sub (Owns.ints hO2) (T := Any) fun _ _ _ => trivial)
      have HUo := Lib.hid (HU1.out.trans hUr.out)
      clear hlt hk hO hO2 hUr
      go_wp2_with fail
      exact ⟨rfl, .tuple #[_, .int .i64 0], by simp [results, Tryz.results184, go_sem], HUo.out, _, rfl, HR.out⟩
theorem sub_at {a b : List Int} {k : Nat} (hk : k < a.length) (e : b.contains (gi a k) = false) : subB a b = false := by
  rw [Bool.eq_false_iff]; intro h
  rw [List.contains_iff_mem.2 (subB_iff.1 h _ (gi_in hk))] at e; cases e
theorem sub_all {a b : List Int} (h : ∀ j, j < a.length → b.contains (gi a j) = true) : subB a b = true := subB_iff.2 fun x hx => by
  obtain ⟨k, hk, rfl⟩ := in_gi hx
  exact List.contains_iff_mem.1 (h k hk)
set_option maxRecDepth 100000 in
set_option maxHeartbeats 1000000 in
theorem within04_t (S T : Nat → Prop) (w : World) (v u : Value) (a b : List Int) (h : IntsAt S w v a) (h2 : IntsAt T w u b) (hn : a.length ≤ 1000000) (hm : b.length ≤ 1000000) (ha : SetOk a) (hb : SetOk b) :
    Calls Tryz.prog 213 #[v, u] w fun e w' => e = .returned (.tuple #[.bool (subB a b), .int .i64 0]) ∧ QD w w' := by
  have H1 := Lib.hid (bad04_t S T w v u a b h h2 hn hm ha hb)
  obtain ⟨p, cap, rfl, -, -⟩ := SlAt.open h
  obtain ⟨q, caq, rfl, -, -⟩ := SlAt.open h2
  have HA : Hid (IntsAt S w (.slice p a.length cap) a) := h
  have HH : Hid (∀ W (x : Int), QD w W → Calls Tryz.prog 113 #[.slice q b.length caq, .int .i64 x] W fun e w' => e = .returned (.bool (b.contains x)) ∧ W = w') := fun W x hW => has04_t T W _ b x (IntsAt.keep h2 (hW.kept _)) hm
  have HT : Hid (∀ k, k < a.length → b.contains (gi a k) = false → subB a b = false) := fun k hk e => sub_at hk e
  have HF : Hid ((∀ j, j < a.length → b.contains (gi a j) = true) → subB a b = true) := fun h => sub_all h
  clear h h2 ha hb
  generalize subB a b = r at *
  go_enter Tryz.func213, Tryz.ntmps213
  go_wp2_with fail
  refine H1.out.mono ?_
  rintro e w1 ⟨rfl, hq1⟩
  have HQ1 := Lib.hid hq1
  clear hq1 H1
  go_wp2_with fail
  go_loop [6] (fun i => ∃ k : Nat, k ≤ a.length ∧ i = .int .i64 k ∧ Hid (∀ j, j < k → b.contains (gi a j) = true)) (fun i => a.length - (intOf i).toNat)
  case atStart => exact ⟨0, Nat.zero_le _, rfl, fun j hj => absurd hj (Nat.not_lt_zero _)⟩
  case round =>
    obtain ⟨k, hk, rfl, hd⟩ := hrel
    by_cases hlt : k < a.length
    · obtain ⟨b1, off, rfl, hc⟩ := ints_get (IntsAt.keep HA.out (HQ1.out.kept S)) hlt
      have HHK := Lib.hid (HH.out w1 (gi a k) HQ1.out)
      have HTK := Lib.hid (HT.out k hlt)
      have HGO : Hid (b.contains (gi a k) = true → ∀ j, j < k + 1 → b.contains (gi a j) = true) := fun e j hj => if ej : j = k then by subst ej; exact e else hd.out j (by omega)
      have i1 : (0 : Int) ≤ (k : Int) := by omega
      have i2 : (k : Int) < (a.length : Int) := by omega
      have i3 : (k : Int) < 1000000 := by omega
      generalize gi a k = x at *
      generalize b.contains x = c at *
      cases c
      · have HR := Lib.hid (HTK.out rfl)
        go_wp2_with fail
        refine HHK.out.mono ?_
        rintro e w' ⟨rfl, rfl⟩
        go_wp2_with fail
        exact ⟨rfl, .tuple #[.bool false, .int .i64 0], by simp [results, Tryz.results213, go_sem], by rw [HR.out], HQ1.out⟩
      · have HR := Lib.hid (HGO.out rfl)
        go_wp2_with fail
        refine HHK.out.mono ?_
        rintro e w' ⟨rfl, rfl⟩
        go_wp2_with fail
        go_round
        case rel => exact ⟨k + 1, by omega, by go_num, HR.out⟩
        case measure => simp [intOf]; omega
    · obtain rfl : k = a.length := by omega
      have HR := Lib.hid (HF.out hd.out)
      clear hlt hk
      go_wp2_with fail
      exact ⟨rfl, .tuple #[.bool true, .int .i64 0], by simp [results, Tryz.results213, go_sem], by rw [HR.out], HQ1.out⟩
end Go.Proofs.YtcbmbhghmfehpaaGreat
