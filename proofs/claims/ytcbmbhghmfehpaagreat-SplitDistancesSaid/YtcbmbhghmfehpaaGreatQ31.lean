/- The tree of splits: plain. The first pair that is not compatible; how many splits are of one tree only: plain. Package intset: Intersect at sets; split.compatible, Compatible, pair, All. split.pair, All, Compatible. -/
import Derived.Test.YtcbmbhghmfehpaaGreatQ25
import Derived.Test.YtcbmbhghmfehpaaGreatQ30
import Derived.Test.YtcbmbhghmfehpaaGreatQ4
namespace Go.Proofs.YtcbmbhghmfehpaaGreat
def bnErr (names : List ByteArray) (i : Nat) : Int := if namedB (gs names i).data.toList then (if seenK names i then 7 else 0) else 14
def bldErr (names : List ByteArray) (l : List (List Int)) : Int :=
  if names.length = 0 then 5 else if 32 < names.length ∨ 64 < l.length then 4
  else if firstNZ (bnErr names) names.length ≠ 0 then firstNZ (bnErr names) names.length
  else if firstNZ (fun k => splErr names.length (gl l k)) l.length ≠ 0 then firstNZ (fun k => splErr names.length (gl l k)) l.length
  else if 0 ≤ pairI l then 17 else 0
structure BldOk (names : List ByteArray) (l : List (List Int)) : Prop where
  pos : 0 < names.length
  le : names.length ≤ 32
  l64 : l.length ≤ 64
  nm : ∀ k, k < names.length → namedB (gs names k).data.toList = true
  nd : ∀ j k, j < k → k < names.length → gs names k ≠ gs names j
  spl : ∀ s ∈ l, SplOk names.length s
  cmp : ∀ i k, i < k → k < l.length → compB (gl l i) (gl l k) = true
theorem gl_in {l : List (List Int)} {k : Nat} (h : k < l.length) : gl l k ∈ l := by simp [gl, h]
theorem in_gl {l : List (List Int)} {x : List Int} (h : x ∈ l) : ∃ k, k < l.length ∧ gl l k = x := by
  obtain ⟨k, hk, e⟩ := List.mem_iff_getElem.1 h
  exact ⟨k, hk, by simp [gl, hk, e]⟩
theorem pair_none {l : List (List Int)} : pairI l < 0 ↔ ∀ i k, i < k → k < l.length → compB (gl l i) (gl l k) = true := by
  have h1 := firstIx_any (fun i => decide (0 ≤ rowPair l i)) l.length
  have h2 : ∀ i, decide (0 ≤ rowPair l i) = (List.range l.length).any fun k => decide (i < k) && !compB (gl l i) (gl l k) := fun i => firstIx_any _ _
  constructor
  · intro h i k hik hk
    have h3 : (List.range l.length).any (fun i => decide (0 ≤ rowPair l i)) = false := by
      rw [← h1]; exact decide_eq_false (by unfold pairI at h; omega)
    have h4 := any_false h3 (show i < l.length by omega)
    rw [h2] at h4
    have h5 := any_false h4 hk
    rw [decide_eq_true hik, Bool.true_and] at h5
    simpa using h5
  · intro h
    have h3 : (List.range l.length).any (fun i => decide (0 ≤ rowPair l i)) = false := any_none fun i hi => by
      rw [h2]
      refine any_none fun k hk => ?_
      by_cases e : i < k
      · rw [h i k e hk]; simp
      · rw [decide_eq_false e]; rfl
    rw [← h1] at h3
    have := of_decide_eq_false h3
    unfold pairI; omega
theorem bldErr_ok {names : List ByteArray} {l : List (List Int)} : bldErr names l = 0 ↔ BldOk names l := by
  unfold bldErr
  constructor
  · intro h
    split at h
    · cases h
    · split at h
      · cases h
      · split at h
        · rename_i h3; exact absurd h h3
        · rename_i h3
          have h3 := firstNZ_eq_zero (Classical.not_not.1 h3)
          split at h
          · rename_i h4; exact absurd h h4
          · rename_i h4
            have h4 := firstNZ_eq_zero (Classical.not_not.1 h4)
            split at h
            · cases h
            · rename_i h5
              refine ⟨by omega, by omega, by omega, fun k hk => ?_, fun j k hjk hk e => ?_, fun s hs => ?_, pair_none.1 (by omega)⟩
              · have := h3 k hk
                unfold bnErr at this
                split at this
                · assumption
                · cases this
              · have := h3 k hk
                unfold bnErr at this
                split at this
                · rw [if_pos] at this
                  · cases this
                  · exact List.any_eq_true.2 ⟨j, List.mem_range.2 hjk, decide_eq_true e.symm⟩
                · cases this
              · obtain ⟨k, hk, rfl⟩ := in_gl hs
                exact splErr_zero.1 (h4 k hk)
  · intro h
    have h1 := h.pos
    have h2 := h.le
    have h3 := h.l64
    have h4 : firstNZ (bnErr names) names.length = 0 := firstNZ_zero fun k hk => by
      unfold bnErr
      rw [if_pos (h.nm k hk), if_neg]
      intro e
      obtain ⟨j, hj, e⟩ := List.any_eq_true.1 e
      exact h.nd j k (List.mem_range.1 hj) hk (of_decide_eq_true e).symm
    have h5 : firstNZ (fun k => splErr names.length (gl l k)) l.length = 0 := firstNZ_zero fun k hk => splErr_zero.2 (h.spl _ (gl_in hk))
    have h6 := pair_none.2 h.cmp
    rw [if_neg (by omega), if_neg (by omega), if_neg (fun e => e h4), if_neg (fun e => e h5), if_neg (by omega)]
/-- Longer lists first. -/
def cmpQ (a b : List Int) : Int := if b.length < a.length then -1 else if a.length < b.length then 1 else cmpL a b
theorem cmpQ_zero {a b : List Int} (h : cmpQ a b = 0) : a = b := by
  unfold cmpQ at h
  split at h
  · omega
  · split at h
    · omega
    · exact cmpL_zero h
theorem cmpQ_self (a : List Int) : cmpQ a a = 0 := by unfold cmpQ; rw [if_neg (by omega), if_neg (by omega)]; exact cmpL_self a
theorem cmpQ_anti (a b : List Int) : cmpQ b a = - cmpQ a b := by
  unfold cmpQ
  by_cases h1 : b.length < a.length
  · simp only [if_pos h1, if_neg (show ¬ a.length < b.length by omega)]; rfl
  · by_cases h2 : a.length < b.length
    · simp only [if_pos h2, if_neg h1]
    · simp only [if_neg h1, if_neg h2]; exact cmpL_anti a b
theorem cmpQ_trans {a b c : List Int} (h1 : cmpQ a b < 0) (h2 : cmpQ b c < 0) : cmpQ a c < 0 := by
  unfold cmpQ at *
  by_cases x1 : b.length < a.length
  · by_cases y1 : c.length < b.length
    · rw [if_pos (by omega)]; omega
    · rw [if_neg y1] at h2
      by_cases y2 : b.length < c.length
      · rw [if_pos y2] at h2; omega
      · rw [if_pos (by omega)]; omega
  · rw [if_neg x1] at h1
    by_cases x2 : a.length < b.length
    · rw [if_pos x2] at h1; omega
    · rw [if_neg x2] at h1
      by_cases y1 : c.length < b.length
      · rw [if_pos (by omega)]; omega
      · rw [if_neg y1] at h2
        by_cases y2 : b.length < c.length
        · rw [if_pos y2] at h2; omega
        · rw [if_neg y2] at h2
          rw [if_neg (by omega), if_neg (by omega)]
          exact cmpL_trans h1 h2
def leQ (a b : List Int) : Prop := cmpQ a b ≤ 0
theorem leQ_trans {a b c : List Int} (h1 : leQ a b) (h2 : leQ b c) : leQ a c := by
  unfold leQ at *
  by_cases e1 : cmpQ a b = 0
  · rw [cmpQ_zero e1]; exact h2
  · by_cases e2 : cmpQ b c = 0
    · rw [← cmpQ_zero e2]; exact h1
    · have h3 : cmpQ a b < 0 := by omega
      have h4 : cmpQ b c < 0 := by omega
      exact Int.le_of_lt (cmpQ_trans h3 h4)
def insQ (a : List Int) : List (List Int) → List (List Int)
  | [] => [a]
  | b :: l => if cmpQ a b ≤ 0 then a :: b :: l else b :: insQ a l
def sortQ : List (List Int) → List (List Int)
  | [] => []
  | a :: l => insQ a (sortQ l)
theorem insQ_perm (a : List Int) : ∀ l : List (List Int), (insQ a l).Perm (a :: l)
  | [] => List.Perm.refl _
  | b :: l => by
    rw [insQ]
    split
    · exact List.Perm.refl _
    · exact (List.Perm.cons b (insQ_perm a l)).trans (List.Perm.swap a b l)
theorem sortQ_perm : ∀ l : List (List Int), (sortQ l).Perm l
  | [] => List.Perm.refl _
  | a :: l => (insQ_perm a _).trans (List.Perm.cons a (sortQ_perm l))
theorem insQ_sorted (a : List Int) : ∀ {l : List (List Int)}, l.Pairwise leQ → (insQ a l).Pairwise leQ
  | [], _ => by simp [insQ]
  | b :: l, h => by
    rw [insQ]
    rw [List.pairwise_cons] at h
    split
    · rename_i h1
      refine List.pairwise_cons.2 ⟨fun c hc => ?_, List.pairwise_cons.2 h⟩
      rcases List.mem_cons.1 hc with rfl | hc
      · exact h1
      · exact leQ_trans h1 (h.1 c hc)
    · rename_i h1
      refine List.pairwise_cons.2 ⟨fun c hc => ?_, insQ_sorted a h.2⟩
      rcases List.mem_cons.1 ((insQ_perm a l).mem_iff.1 hc) with rfl | hc
      · unfold leQ; have := cmpQ_anti c b; omega
      · exact h.1 c hc
theorem sortQ_sorted : ∀ l : List (List Int), (sortQ l).Pairwise leQ
  | [] => List.Pairwise.nil
  | a :: l => insQ_sorted a (sortQ_sorted l)
theorem sortQ_uniq {a b : List (List Int)} (hp : a.Perm b) (h : a.Pairwise leQ) : a = sortQ b :=
  List.Perm.eq_of_pairwise (le := leQ) (fun x y _ _ h1 h2 => cmpQ_zero (by unfold leQ at h1 h2; have := cmpQ_anti x y; omega)) h (sortQ_sorted b) (hp.trans (sortQ_perm b).symm)
/-- The splits, greater ones first, each once. -/
def ownQ (l : List (List Int)) : List (List Int) := cptX (sortQ l)
theorem mem_ownO {x : List Int} {l : List (List Int)} : x ∈ ownQ l ↔ x ∈ l := by unfold ownQ; rw [mem_cptX]; exact (sortQ_perm l).mem_iff
theorem cptQ_strict : ∀ {l : List (List Int)}, l.Pairwise leQ → (cptX l).Pairwise fun a b => cmpQ a b < 0
  | [], _ => List.Pairwise.nil
  | a :: l, h => by
    rw [List.pairwise_cons] at h
    rw [cptX]
    split
    · exact cptQ_strict h.2
    · rename_i hne
      refine List.pairwise_cons.2 ⟨fun c hc => ?_, cptQ_strict h.2⟩
      have hc := mem_cptX.1 hc
      have h1 := h.1 c hc
      unfold leQ at h1
      by_cases e : cmpQ a c = 0
      · exfalso
        have e := cmpQ_zero e
        subst e
        cases l with
        | nil => cases hc
        | cons b l =>
          rw [List.head?_cons] at hne
          have h2 := h.1 b (by simp)
          rcases List.mem_cons.1 hc with rfl | hc
          · exact hne rfl
          · have h3 := (List.pairwise_cons.1 h.2).1 _ hc
            unfold leQ at h2 h3
            have := cmpQ_anti a b
            exact hne (by rw [cmpQ_zero (a := a) (b := b) (by omega)])
      · omega
theorem ownQ_strict (l : List (List Int)) : (ownQ l).Pairwise fun a b => cmpQ a b < 0 := cptQ_strict (sortQ_sorted l)
theorem cptX_len : ∀ l : List (List Int), (cptX l).length ≤ l.length
  | [] => Nat.le_refl _
  | a :: l => by
    rw [cptX]
    have := cptX_len l
    split <;> simp <;> omega
theorem ownQ_len (l : List (List Int)) : (ownQ l).length ≤ l.length := by unfold ownQ; rw [← (sortQ_perm l).length_eq]; exact cptX_len _
/-- The place of the last of the first k lists that has x: its node; 2 if there is none. -/
def lastQ (own : List (List Int)) (x : Int) : Nat → Int
  | 0 => 2
  | k + 1 => if (gl own k).contains x then ((3 + k : Nat) : Int) else lastQ own x k
def bT (names : List ByteArray) (own : List (List Int)) : Tre :=
  ⟨[-1, 0, 0] ++ ((List.range own.length).map (fun k => lastQ own (gi (gl own k) 0) k) ++ (List.range (names.length - 1)).map fun b => lastQ own ((b + 1 : Nat) : Int) own.length),
   [ByteArray.empty, gs names 0, ByteArray.empty] ++ (List.replicate own.length ByteArray.empty ++ (List.range (names.length - 1)).map fun b => gs names (b + 1))⟩
def bldT (names : List ByteArray) (l : List (List Int)) : Tre :=
  if names.length = 1 then ⟨[-1], [gs names 0]⟩ else if names.length = 2 then canT ⟨[-1, 0, 0], [ByteArray.empty, gs names 0, gs names 1]⟩ else canT (bT names (ownQ l))
def bldR (names : List ByteArray) (l : List (List Int)) : Tre := if bldErr names l = 0 then bldT names l else ⟨[], []⟩
/-- The set of node i. -/
def bS (names : List ByteArray) (own : List (List Int)) (i : Nat) : List Int :=
  if i = 0 then allI names.length else if i = 1 then [0] else if i = 2 then complL names.length [0] else if i < 3 + own.length then gl own (i - 3) else [((i - 2 - own.length : Nat) : Int)]
theorem lastQ_spec (own : List (List Int)) (x : Int) : ∀ k, (lastQ own x k = 2 ∧ ∀ j, j < k → x ∉ gl own j) ∨ ∃ p, p < k ∧ lastQ own x k = ((3 + p : Nat) : Int) ∧ x ∈ gl own p ∧ ∀ j, p < j → j < k → x ∉ gl own j
  | 0 => .inl ⟨rfl, fun j hj => absurd hj (Nat.not_lt_zero _)⟩
  | k + 1 => by
    rw [lastQ]
    by_cases h : x ∈ gl own k
    · rw [if_pos (List.contains_iff_mem.2 h)]
      exact .inr ⟨k, by omega, rfl, h, fun j h1 h2 => by omega⟩
    · rw [if_neg (fun e => h (List.contains_iff_mem.1 e))]
      rcases lastQ_spec own x k with ⟨h1, h2⟩ | ⟨p, h1, h2, h3, h4⟩
      · refine .inl ⟨h1, fun j hj => ?_⟩
        by_cases e : j = k
        · subst e; exact h
        · exact h2 j (by omega)
      · refine .inr ⟨p, by omega, h2, h3, fun j hj1 hj2 => ?_⟩
        by_cases e : j = k
        · subst e; exact h
        · exact h4 j hj1 (by omega)
section
variable {names : List ByteArray} {l : List (List Int)}
theorem bT_len : (bT names (ownQ l)).ps.length = 3 + (ownQ l).length + (names.length - 1) := by simp [bT]; omega
theorem bT_nlen : (bT names (ownQ l)).ns.length = 3 + (ownQ l).length + (names.length - 1) := by simp [bT]; omega
theorem bT_ps {own : List (List Int)} (i : Nat) : gi (bT names own).ps i = if i = 0 then -1 else if i < 3 then 0 else if i < 3 + own.length then lastQ own (gi (gl own (i - 3)) 0) (i - 3) else if i < 3 + own.length + (names.length - 1) then lastQ own ((i - 2 - own.length : Nat) : Int) own.length else 0 := by
  by_cases h0 : i = 0
  · subst h0; rfl
  by_cases h1 : i = 1
  · subst h1; rfl
  by_cases h2 : i = 2
  · subst h2; rfl
  obtain ⟨j, rfl⟩ : ∃ j, i = 3 + j := ⟨i - 3, by omega⟩
  rw [if_neg h0, if_neg (by omega)]
  have e : gi (bT names own).ps (3 + j) = gi ((List.range own.length).map (fun k => lastQ own (gi (gl own k) 0) k) ++ (List.range (names.length - 1)).map fun b => lastQ own ((b + 1 : Nat) : Int) own.length) j := by
    have := gi_app_r [-1, 0, 0] ((List.range own.length).map (fun k => lastQ own (gi (gl own k) 0) k) ++ (List.range (names.length - 1)).map fun b => lastQ own ((b + 1 : Nat) : Int) own.length) j
    exact this
  rw [e]
  by_cases h3 : j < own.length
  · rw [if_pos (by omega), gi_app_l _ (by simpa using h3), show 3 + j - 3 = j by omega]
    simp [gi, h3]
  · rw [if_neg (by omega)]
    obtain ⟨b, rfl⟩ : ∃ b, j = own.length + b := ⟨j - own.length, by omega⟩
    have e2 := gi_app_r ((List.range own.length).map (fun k => lastQ own (gi (gl own k) 0) k)) ((List.range (names.length - 1)).map fun b => lastQ own ((b + 1 : Nat) : Int) own.length) b
    rw [List.length_map, List.length_range] at e2
    rw [e2]
    by_cases h4 : b < names.length - 1
    · rw [if_pos (by omega), show 3 + (own.length + b) - 2 - own.length = b + 1 by omega]
      simp [gi, h4]
    · rw [if_neg (by omega)]
      simp [gi, h4]
end
end Go.Proofs.YtcbmbhghmfehpaaGreat
namespace Go.Proofs.YtcbmbhghmfehpaaGreat
def hasL (b : List (List Int)) (s : List Int) : Bool := (List.range b.length).any fun j => decide (s = gl b j)
theorem hasL_iff {b : List (List Int)} {s : List Int} : hasL b s = true ↔ s ∈ b := by
  unfold hasL
  rw [List.any_eq_true]
  constructor
  · rintro ⟨j, hj, e⟩
    rw [of_decide_eq_true e]; exact gl_in (List.mem_range.1 hj)
  · intro h
    obtain ⟨k, hk, e⟩ := in_gl h
    exact ⟨k, List.mem_range.2 hk, decide_eq_true e.symm⟩
def onlyK (a b : List (List Int)) : Nat → Nat
  | 0 => 0
  | k + 1 => onlyK a b k + if hasL b (gl a k) then 0 else 1
def onlyN (a b : List (List Int)) : Nat := onlyK a b a.length
def distN (a b : List (List Int)) : Nat := onlyN a b + onlyN b a
theorem onlyK_le (a b : List (List Int)) : ∀ k, onlyK a b k ≤ k
  | 0 => Nat.le_refl _
  | k + 1 => by
    have := onlyK_le a b k
    rw [onlyK]; split <;> omega
theorem onlyK_eq (a b : List (List Int)) : ∀ k, k ≤ a.length → onlyK a b k = ((a.take k).filter fun s => !hasL b s).length
  | 0, _ => by simp [onlyK]
  | k + 1, hk => by
    rw [onlyK, onlyK_eq a b k (by omega), List.take_add_one, List.filter_append, List.length_append]
    congr 1
    have : a[k]?.toList = [gl a k] := by simp [gl, show k < a.length by omega]
    rw [this, show [gl a k] = gl a k :: [] from rfl, List.filter_cons]
    cases hasL b (gl a k) <;> simp
theorem onlyN_eq (a b : List (List Int)) : onlyN a b = (a.filter fun s => !hasL b s).length := by
  unfold onlyN; rw [onlyK_eq a b _ (Nat.le_refl _), List.take_length]
theorem only_zero {a b : List (List Int)} : onlyN a b = 0 ↔ ∀ s ∈ a, s ∈ b := by
  rw [onlyN_eq, List.length_eq_zero_iff, List.filter_eq_nil_iff]
  constructor
  · intro h s hs
    have := h s hs
    exact hasL_iff.1 (by simpa using this)
  · intro h s hs
    rw [hasL_iff.2 (h s hs)]; simp
theorem only_le (a b : List (List Int)) : onlyN a b ≤ a.length := onlyK_le a b _
theorem only_tri {a b c : List (List Int)} (ha : a.Nodup) : onlyN a c ≤ onlyN a b + onlyN b c := by
  rw [onlyN_eq, onlyN_eq, onlyN_eq, ← List.length_append]
  refine List.Nodup.length_le_of_subset (ha.filter _) fun s hs => ?_
  obtain ⟨h1, h2⟩ := List.mem_filter.1 hs
  by_cases h : hasL b s = true
  · exact List.mem_append.2 (.inr (List.mem_filter.2 ⟨hasL_iff.1 h, h2⟩))
  · exact List.mem_append.2 (.inl (List.mem_filter.2 ⟨h1, by simpa using h⟩))
theorem strict_nodup {a : List (List Int)} (h : a.Pairwise ltX) : a.Nodup := h.imp fun h e => by
  subst e
  unfold ltX at h
  rw [cmpL_self] at h; omega
theorem dist_symm (a b : List (List Int)) : distN a b = distN b a := Nat.add_comm _ _
theorem dist_zero {a b : List (List Int)} (ha : a.Pairwise ltX) (hb : b.Pairwise ltX) : distN a b = 0 ↔ a = b := by
  unfold distN
  constructor
  · intro h
    exact ltX_ext ha hb fun x => ⟨only_zero.1 (by omega) x, only_zero.1 (by omega) x⟩
  · rintro rfl
    have := (only_zero (a := a) (b := a)).2 fun s hs => hs
    omega
theorem dist_tri {a b c : List (List Int)} (ha : a.Pairwise ltX) (hc : c.Pairwise ltX) : distN a c ≤ distN a b + distN b c := by
  have h1 := only_tri (b := b) (c := c) (strict_nodup ha)
  have h2 := only_tri (b := b) (c := a) (strict_nodup hc)
  unfold distN; omega
theorem dist_le (a b : List (List Int)) : distN a b ≤ a.length + b.length := by
  have h1 := only_le a b
  have h2 := only_le b a
  unfold distN; omega
end Go.Proofs.YtcbmbhghmfehpaaGreat
namespace Go.Proofs.YtcbmbhghmfehpaaGreat
open Go.RowKit Go.Shelf Go.Deep
set_option maxRecDepth 100000 in
set_option maxHeartbeats 1000000 in
theorem combine_t (S : Nat → Prop) (w : World) (v u : Value) (a b : List Int) (h : IntsAt S w v a) (h2 : IntsAt S w u b) (ha : SetOk a) (hb : SetOk b) (hl : a.length ≤ 1000000) (hl2 : b.length ≤ 1000000) :
    Calls Tryz.prog 188 #[v, u, .func (.func 189) #[] #[]] w fun e w' => Up w w' ∧ ∃ u, e = .returned (.tuple #[u, .int .i64 0]) ∧ Owns w.heap.size 3 w' u ((interL a b).map (Value.int .i64)) := by
  have hu0 := Up.alloc w (.cells #[.func (.func 189) #[] #[]] 206)
  have hb0 := box1_0 w (.func (.func 189) #[] #[]) 206
  obtain ⟨p, cap, rfl, -, -⟩ := SlAt.open h
  obtain ⟨p2, cap2, rfl, -, -⟩ := SlAt.open h2
  have H : Hid (IntsAt S w (.slice p a.length cap) a) := h
  have H2 : Hid (IntsAt S w (.slice p2 b.length cap2) b) := h2
  have HA := Lib.hid ha
  have HB := Lib.hid hb
  have HU0 := Lib.hid hu0
  have HB0 := Lib.hid hb0
  have HC1 : Hid (∀ W, Up w W → Calls Tryz.prog 125 #[.slice p a.length cap] W fun e w' => e = .returned (.int .i64 0) ∧ W = w') := fun W hW => by
    have h := setCheck_t S W _ a (IntsAt.keep H.out (hW.kept _)) hl
    rw [setErr_zero.2 ha] at h; exact h
  have HC2 : Hid (∀ W, Up w W → Calls Tryz.prog 125 #[.slice p2 b.length cap2] W fun e w' => e = .returned (.int .i64 0) ∧ W = w') := fun W hW => by
    have h := setCheck_t S W _ b (IntsAt.keep H2.out (hW.kept _)) hl2
    rw [setErr_zero.2 hb] at h; exact h
  have REST : Hid (∀ w3 B1 B2 b5 b8 b9 c1 c2, Up w w3 → w3.cell? ⟨B1, 0, none⟩ = some (.int .i64 64) → w3.cell? ⟨B2, 0, none⟩ = some (.func (.func 220) #[] #[.pointer (some ⟨b5, 0, none⟩), .pointer (some ⟨b8, 0, none⟩), .pointer (some ⟨b9, 0, none⟩)]) → w3.cell? ⟨b5, 0, none⟩ = some (.func (.func 189) #[] #[]) →
      w3.cell? ⟨b8, 0, none⟩ = some (.func (.func 194) #[] #[.pointer (some ⟨c1, 0, none⟩)]) → w3.cell? ⟨b9, 0, none⟩ = some (.func (.func 194) #[] #[.pointer (some ⟨c2, 0, none⟩)]) → w3.cell? ⟨c1, 0, none⟩ = some (.slice p a.length cap) → w3.cell? ⟨c2, 0, none⟩ = some (.slice p2 b.length cap2) →
      Calls Tryz.prog 153 #[.func (.func 197) #[] #[.pointer (some ⟨B1, 0, none⟩), .pointer (some ⟨B2, 0, none⟩)]] w3 (AqPost w3 (interL a b))) := fun w3 B1 B2 b5 b8 b9 c1 c2 hu q1 q2 q5 q8 q9 r1 r2 => by
    have hks : ∀ W', KS (· < w3.heap.size) w3 W' → ∀ b o x, w3.cell? ⟨b, o, none⟩ = some x → W'.cell? ⟨b, o, none⟩ = some x := fun W' hW b o x hc => (hW.cell (p := ⟨b, o, none⟩) (World.block_lt_of_cell? w3 _ hc)).trans hc
    refine collectM_t w3 B1 B2 64 (Nat.le_refl _) (fun x => a.contains x && b.contains x) 220 _ (enters_of Tryz.func220 (by kernel_rfl) rfl) q1 q2 fun k hk W' hW' => ?_
    exact inter1_t (· < w3.heap.size) W' b5 b8 b9 c1 c2 _ _ a b k (hks W' hW' _ _ _ q5) (hks W' hW' _ _ _ q8) (hks W' hW' _ _ _ q9) (hks W' hW' _ _ _ r1) (SlAt.keep (IntsAt.sub (IntsAt.keep H.out (hu.kept _)) fun b _ hb => hb) fun b hb _ => hW' b hb) hl HA.out.asc (hks W' hW' _ _ _ r2) (SlAt.keep (IntsAt.sub (IntsAt.keep H2.out (hu.kept _)) fun b _ hb => hb) fun b hb _ => hW' b hb) hl2 HB.out.asc
  have FIN : Hid (∀ w3 e w', Up w w3 → AqPost w3 (interL a b) e w' → ∃ u, e = .returned u ∧ Up w w' ∧ Owns w.heap.size 3 w' u ((interL a b).map (Value.int .i64))) := fun w3 e w' hu ⟨h1, u, he, h2⟩ => ⟨u, he, hu.trans h1, by
    obtain ⟨hl, h | ⟨g, cap, cur, hv, hg, hc, hr⟩⟩ := h2
    · exact ⟨hl, .inl h⟩
    · exact ⟨hl, .inr ⟨g, cap, cur, hv, Nat.le_trans hu.size hg, hc, hr⟩⟩⟩
  clear h h2 ha hb hu0 hb0
  go_enter Tryz.func188, Tryz.ntmps188
  go_wp2_with fail
  generalize w.alloc (.cells #[.func (.func 189) #[] #[]] 206) = w0 at *
  refine (HC1.out w0 HU0.out).mono ?_
  rintro e w0' ⟨rfl, rfl⟩
  go_wp2_with fail
  refine (HC2.out w0 HU0.out).mono ?_
  rintro e w0' ⟨rfl, rfl⟩
  go_wp2_with fail
  refine (has_t _ _ _ _).mono ?_
  rintro e w1 ⟨rfl, hw1⟩
  have hu1 := Up.alloc w0 (.cells #[.slice p a.length cap] 26)
  have hb1 := box1_0 w0 (.slice p a.length cap) 26
  rw [← hw1] at hu1 hb1
  have HU1 := Lib.hid hu1
  have HB1 := Lib.hid hb1
  clear hw1 hu1 hb1
  go_wp2_with fail
  refine (has_t _ _ _ _).mono ?_
  rintro e w2 ⟨rfl, hw2⟩
  have hu2 := Up.alloc w1 (.cells #[.slice p2 b.length cap2] 26)
  have hb2 := box1_0 w1 (.slice p2 b.length cap2) 26
  rw [← hw2] at hu2 hb2
  have HU2 := Lib.hid hu2
  have HB2 := Lib.hid hb2
  clear hw2 hu2 hb2
  go_wp2_with fail
  obtain ⟨t1, t2, t3⟩ := two_boxes w2 (.func (.func 194) #[] #[.pointer (some ⟨w0.heap.size, 0, none⟩)]) (.func (.func 194) #[] #[.pointer (some ⟨w1.heap.size, 0, none⟩)]) 93 93
  generalize (w2.alloc (.cells #[.func (.func 194) #[] #[.pointer (some ⟨w0.heap.size, 0, none⟩)]] 93)).alloc (.cells #[.func (.func 194) #[] #[.pointer (some ⟨w1.heap.size, 0, none⟩)]] 93) = w3 at *
  refine (members_t _ _ _ _).mono ?_
  rintro e w4 ⟨rfl, hw4⟩
  obtain ⟨m1, m2, m3⟩ := two_boxes w3 (.int .i64 64) (.func (.func 220) #[] #[.pointer (some ⟨w.heap.size, 0, none⟩), .pointer (some ⟨w2.heap.size, 0, none⟩), .pointer (some ⟨w2.heap.size + 1, 0, none⟩)]) 3 93
  rw [← hw4] at m1 m2 m3
  have h24 := t1.trans m1
  have h14 := HU2.out.trans h24
  have h04 := HU1.out.trans h14
  have HU4 : Hid (Up w w4) := HU0.out.trans h04
  have HR := Lib.hid (REST.out w4 _ _ _ _ _ _ _ HU4.out m2 m3 (h04.cell HB0.out) (m1.cell t2) (m1.cell t3) (h14.cell HB1.out) (h24.cell HB2.out))
  clear hw4 m1 m2 m3 t1 t2 t3 h24 h14 h04
  go_wp2_with fail
  refine HR.out.mono ?_
  rintro e w5 hp
  obtain ⟨u, rfl, h4, h5⟩ := FIN.out w4 e w5 HU4.out hp
  have H4 := Lib.hid h4
  have H5 := Lib.hid h5
  clear hp h4 h5
  go_wp2_with fail
  exact ⟨rfl, .tuple #[_, _], by simp [results, Tryz.results188, go_sem], H4.out, _, rfl, H5.out⟩
set_option maxHeartbeats 400000 in
theorem intersect_t (S : Nat → Prop) (w : World) (v u : Value) (a b : List Int) (h : IntsAt S w v a) (h2 : IntsAt S w u b) (ha : SetOk a) (hb : SetOk b) (hl : a.length ≤ 1000000) (hl2 : b.length ≤ 1000000) :
    Calls Tryz.prog 141 #[v, u] w fun e w' => Up w w' ∧ ∃ u, e = .returned (.tuple #[u, .int .i64 0]) ∧ Owns w.heap.size 3 w' u ((interL a b).map (Value.int .i64)) := by
  have HC := Lib.hid (combine_t S w v u a b h h2 ha hb hl hl2)
  obtain ⟨p, cap, rfl, -, -⟩ := SlAt.open h
  obtain ⟨p2, cap2, rfl, -, -⟩ := SlAt.open h2
  clear h h2
  go_enter Tryz.func141, Tryz.ntmps141
  go_wp2_with fail
  refine HC.out.mono ?_
  rintro e w' ⟨h1, u, rfl, h2⟩
  have H1 := Lib.hid h1
  have H2 := Lib.hid h2
  clear h1 h2
  go_wp2_with fail
  exact ⟨rfl, .tuple #[_, _], by simp [results, Tryz.results141, go_sem], H1.out, _, rfl, H2.out⟩
set_option maxRecDepth 100000 in
set_option maxHeartbeats 1000000 in
theorem compat_t (S : Nat → Prop) (w : World) (v u : Value) (a b : List Int) (h : IntsAt S w v a) (h2 : IntsAt S w u b) (ha : SetOk a) (hb : SetOk b) (hl : a.length ≤ 1000000) (hl2 : b.length ≤ 1000000) :
    Calls Tryz.prog 78 #[v, u] w fun e w' => e = .returned (.bool (compB a b)) ∧ Up w w' := by
  have HC := Lib.hid (intersect_t S w v u a b h h2 ha hb hl hl2)
  have HF : Hid (compB a b = (decide ((interL a b).length = 0) || decide ((interL a b).length = a.length) || decide ((interL a b).length = b.length))) := rfl
  obtain ⟨p, cap, rfl, -, -⟩ := SlAt.open h
  obtain ⟨p2, cap2, rfl, -, -⟩ := SlAt.open h2
  have HM : Hid ((interL a b).length ≤ 64) := memK_len _ _
  clear h h2
  go_enter Tryz.func78, Tryz.ntmps78
  go_wp2_with fail
  refine HC.out.mono ?_
  rintro e w' ⟨h1, u, rfl, h2⟩
  obtain ⟨q, c, rfl, _⟩ := h2.form (n := (interL a b).length) (by rw [List.length_map])
  have H1 := Lib.hid h1
  clear h1 h2
  generalize (interL a b).length = m at *
  generalize a.length = x at *
  generalize b.length = y at *
  by_cases e0 : m = 0
  · have d : ((m : Int) == 0) = true := by simpa using e0
    have HE := Lib.hid e0
    clear e0
    go_wp2_with fail
    go_ret
    exact ⟨ret_bool (by rw [HF.out, decide_eq_true HE.out]; rfl), H1.out⟩
  have d0 : ((m : Int) == 0) = false := beq_eq_false_iff_ne.2 (by omega)
  have HE0 := Lib.hid e0
  clear e0
  by_cases e1 : m = x
  · have d1 : ((m : Int) == (x : Int)) = true := by subst e1; simp
    have HE := Lib.hid e1
    clear e1
    go_wp2_with fail
    go_ret
    exact ⟨ret_bool (by rw [HF.out, decide_eq_true HE.out]; simp), H1.out⟩
  have d1 : ((m : Int) == (x : Int)) = false := beq_eq_false_iff_ne.2 (by omega)
  have HE1 := Lib.hid e1
  clear e1
  by_cases e2 : m = y
  · have d2 : ((m : Int) == (y : Int)) = true := by subst e2; simp
    have HE := Lib.hid e2
    clear e2
    go_wp2_with fail
    go_ret
    exact ⟨ret_bool (by rw [HF.out, decide_eq_true HE.out]; simp), H1.out⟩
  · have d2 : ((m : Int) == (y : Int)) = false := beq_eq_false_iff_ne.2 (by omega)
    have HE2 := Lib.hid e2
    clear e2
    go_wp2_with fail
    go_ret
    exact ⟨ret_bool (by rw [HF.out, decide_eq_false HE0.out, decide_eq_false HE1.out, decide_eq_false HE2.out]; rfl), H1.out⟩
end Go.Proofs.YtcbmbhghmfehpaaGreat
namespace Go.Proofs.YtcbmbhghmfehpaaGreat
open Go.RowKit Go.Shelf Go.Deep
theorem setok_len {s : List Int} (h : SetOk s) : s.length ≤ 64 := by
  have h1 := asc_sub_len h.asc (memK_asc (fun _ => true) 64) (fun x hx => mem_memK.2 (by have := h.bd x hx; exact ⟨by omega, by omega, rfl⟩))
  have h2 := memK_len (fun _ => true) 64
  omega
def cpErr (n : Int) (a b : List Int) : Int := if splErr n a ≠ 0 then splErr n a else splErr n b
def cpB (n : Int) (a b : List Int) : Bool := decide (cpErr n a b = 0) && compB a b
def prI (l : List (List Int)) : Int := if pairI l < 0 then 0 else pairI l
def prK (l : List (List Int)) : Int := if pairI l < 0 then 0 else pairK l
def prB (l : List (List Int)) : Bool := decide (pairI l < 0)
set_option maxRecDepth 100000 in
set_option maxHeartbeats 2000000 in
theorem pair_t (S : Nat → Prop) (w : World) (v : Value) (l : List (List Int)) (h : RowsAt S w v l) (ho : ∀ k, k < l.length → SetOk (gl l k)) (hn : l.length ≤ 1000) :
    Calls Tryz.prog 97 #[v] w fun e w' => e = .returned (.tuple #[.int .i64 (prI l), .int .i64 (prK l), .bool (prB l)]) ∧ Up w w' := by
  obtain ⟨p, cap, rfl, -, -⟩ := rows_open h
  have H : Hid (RowsAt S w (.slice p l.length cap) l) := h
  have HO := Lib.hid ho
  have HNO : Hid ((∀ a, a < l.length → decide (0 ≤ rowPair l a) = false) → prI l = 0 ∧ prK l = 0 ∧ prB l = true) := fun hno => by
    have h1 : pairI l = -1 := firstIx_none hno
    unfold prI prK prB
    rw [h1]; exact ⟨rfl, rfl, rfl⟩
  have HYES : Hid (∀ i k, i < l.length → k < l.length → (∀ a, a < i → decide (0 ≤ rowPair l a) = false) → (∀ b, b < k → (decide (i < b) && !compB (gl l i) (gl l b)) = false) → i < k → compB (gl l i) (gl l k) = false → prI l = i ∧ prK l = k ∧ prB l = false) := fun i k hi hk h1 h2 hik hc => by
    have r : rowPair l i = k := firstIx_at hk h2 (by rw [decide_eq_true hik, hc]; rfl)
    have q : pairI l = i := firstIx_at hi h1 (by rw [r]; exact decide_eq_true (by omega))
    have q2 : pairK l = k := by unfold pairK; rw [q, Int.toNat_natCast]; exact r
    unfold prI prK prB
    rw [q, q2, if_neg (by omega), if_neg (by omega)]
    exact ⟨rfl, rfl, decide_eq_false (by omega)⟩
  have HROW : Hid (∀ i, (∀ b, b < l.length → (decide (i < b) && !compB (gl l i) (gl l b)) = false) → decide (0 ≤ rowPair l i) = false) := fun i hno => by
    have h1 : rowPair l i = -1 := firstIx_none hno
    rw [h1]; rfl
  have n3 : (l.length : Int) ≤ 1000 := by omega
  clear h ho
  go_enter Tryz.func97, Tryz.ntmps97
  go_wp2_with fail
  go_loopw [5, 6, 9] (fun _ _ i wr => ∃ k : Nat, k ≤ l.length ∧ i = .int .i64 k ∧ Hid (∀ a, a < k → decide (0 ≤ rowPair l a) = false) ∧ Hid (Up w wr)) (fun _ _ i _ => l.length - (intOf i).toNat)
  case atStart => exact ⟨0, Nat.zero_le _, rfl, fun j hj => absurd hj (Nat.not_lt_zero _), Up.refl _⟩
  case round =>
    obtain ⟨i, hi, rfl, hd, hU⟩ := hrel
    obtain ⟨wo, rfl⟩ : ∃ wo : World, wo = wr := ⟨_, rfl⟩
    by_cases hlt : i < l.length
    · have i1 : (0 : Int) ≤ (i : Int) := Int.natCast_nonneg _
      have i2 : (i : Int) < (l.length : Int) := Int.ofNat_lt.2 hlt
      have i3 : (i : Int) < 1000 := by omega
      go_wp2_with fail
      go_loopw [6] (fun i2 wr => ∃ k : Nat, i + 1 ≤ k ∧ k ≤ l.length ∧ i2 = .int .i64 k ∧ Hid (∀ b, b < k → (decide (i < b) && !compB (gl l i) (gl l b)) = false) ∧ Hid (Up w wr)) (fun i2 _ => l.length - (intOf i2).toNat)
      case atStart => exact ⟨i + 1, Nat.le_refl _, by omega, by go_num, fun b hb => by rw [decide_eq_false (by omega)]; rfl, hU⟩
      case round =>
        obtain ⟨k, hk0, hk, rfl, hd2, hU2⟩ := hrel
        obtain ⟨wq, rfl⟩ : ∃ wq : World, wq = wr := ⟨_, rfl⟩
        by_cases hklt : k < l.length
        · obtain ⟨b, off, q, c, rfl, hc, hr⟩ := rows_get H.out hlt
          obtain ⟨b2, off2, q2, c2, e2, hc2, hr2⟩ := rows_get H.out hklt
          cases e2
          have HC1 := Lib.hid (hU2.out.cell hc)
          have HC2 := Lib.hid (hU2.out.cell hc2)
          have k1 : (0 : Int) ≤ (k : Int) := Int.natCast_nonneg _
          have k2 : (k : Int) < (l.length : Int) := Int.ofNat_lt.2 hklt
          have k3 : (k : Int) < 1000 := by omega
          have HCO : Hid (∀ W, Up wq W → Calls Tryz.prog 78 #[.slice q (gl l i).length c, .slice q2 (gl l k).length c2] W fun e w' => e = .returned (.bool (compB (gl l i) (gl l k))) ∧ Up W w') := fun W hW =>
            compat_t S W _ _ _ _ (IntsAt.keep hr ((hU2.out.trans hW).kept _)) (IntsAt.keep hr2 ((hU2.out.trans hW).kept _)) (HO.out i hlt) (HO.out k hklt) (by have := setok_len (HO.out i hlt); omega) (by have := setok_len (HO.out k hklt); omega)
          have HLT : Hid (i < k) := by unfold Hid; omega
          clear hc hc2 hr hr2
          have hup : Hid (Up wq (wq.drewN 1)) := Up.drewN wq 1
          generalize hcb : compB (gl l i) (gl l k) = cb at *
          have HCB := Lib.hid hcb
          clear hcb
          generalize (gl l i).length = x at *
          generalize (gl l k).length = y at *
          go_wp2_with fail
          go_region_held3 (fun w' => Hid (Up wq w') ∧ w'.cell? ⟨b, off + i, none⟩ = some (.slice q x c) ∧ w'.cell? ⟨b, off + k, none⟩ = some (.slice q2 y c2)) (exact ⟨hup, hup.out.cell HC1.out, hup.out.cell HC2.out⟩) (first
            | (go_at_call 78; refine (HCO.out _ hup.out).mono ?_; rintro e w9 ⟨rfl, hb9⟩; have hup : Hid (Up wq w9) := hup.out.trans hb9; clear hb9))
          have HU3 : Hid (Up w _) := hU2.out.trans hup.out
          clear hup HCO HC1 HC2
          cases cb
          · go_wp2_with fail
            obtain ⟨y1, y2, y3⟩ := HYES.out i k hlt hklt hd.out hd2.out HLT.out HCB.out
            exact ⟨rfl, .tuple #[.int .i64 (i : Int), .int .i64 (k : Int), .bool false], by simp [results, Tryz.results97, go_sem], by rw [y1, y2, y3], HU3.out⟩
          · go_wp2_with fail
            go_roundw
            case rel => exact ⟨k + 1, by omega, by omega, by go_num, fun b' hb' => by
              by_cases e : b' = k
              · subst e; rw [HCB.out]; simp
              · exact hd2.out b' (by omega), HU3⟩
            case measure => simp [intOf]; omega
        · obtain rfl : k = l.length := by omega
          have HR := Lib.hid (HROW.out i hd2.out)
          go_wp2_with fail
          go_roundw
          case rel => exact ⟨i + 1, by omega, by go_num, fun a ha => by
            by_cases e : a = i
            · subst e; exact HR.out
            · exact hd.out a (by omega), hU2⟩
          case measure => simp [intOf]; omega
    · obtain rfl : i = l.length := by omega
      obtain ⟨y1, y2, y3⟩ := HNO.out hd.out
      have HY : Hid (prI l = 0 ∧ prK l = 0 ∧ prB l = true) := ⟨y1, y2, y3⟩
      clear y1 y2 y3
      go_wp2_with fail
      exact ⟨rfl, .tuple #[.int .i64 0, .int .i64 0, .bool true], by simp [results, Tryz.results97, go_sem], by rw [HY.out.1, HY.out.2.1, HY.out.2.2], hU.out⟩
set_option maxRecDepth 100000 in
set_option maxHeartbeats 1000000 in
/-- split.Compatible. -/
theorem compatible_t (S : Nat → Prop) (w : World) (v u : Value) (n : Int) (a b : List Int) (h : IntsAt S w v a) (h2 : IntsAt S w u b) (hl : a.length ≤ 1000000) (hl2 : b.length ≤ 1000000) :
    Calls Tryz.prog 24 #[.int .i64 n, v, u] w fun e w' => e = .returned (.tuple #[.bool (cpB n a b), .int .i64 (cpErr n a b)]) ∧ Up w w' := by
  have HF : Hid (cpErr n a b = if splErr n a ≠ 0 then splErr n a else splErr n b) := rfl
  obtain ⟨p, cap, rfl, -, -⟩ := SlAt.open h
  obtain ⟨p2, cap2, rfl, -, -⟩ := SlAt.open h2
  have HC1 : Hid (∀ W, Up w W → Calls Tryz.prog 59 #[.int .i64 n, .slice p a.length cap] W fun e w' => e = .returned (.int .i64 (splErr n a)) ∧ W = w') := fun W hW => splCheck_t S W _ n a (IntsAt.keep h (hW.kept _)) hl
  have HC2 : Hid (∀ W, Up w W → Calls Tryz.prog 59 #[.int .i64 n, .slice p2 b.length cap2] W fun e w' => e = .returned (.int .i64 (splErr n b)) ∧ W = w') := fun W hW => splCheck_t S W _ n b (IntsAt.keep h2 (hW.kept _)) hl2
  have HCO : Hid (splErr n a = 0 → splErr n b = 0 → ∀ W, Up w W → Calls Tryz.prog 78 #[.slice p a.length cap, .slice p2 b.length cap2] W fun e w' => e = .returned (.bool (compB a b)) ∧ Up W w') := fun e1 e2 W hW => compat_t S W _ _ a b (IntsAt.keep h (hW.kept _)) (IntsAt.keep h2 (hW.kept _)) (splErr_zero.1 e1).set (splErr_zero.1 e2).set hl hl2
  have hu := Up.alloc w (.cells #[.slice p a.length cap, .slice p2 b.length cap2] 26)
  have b0 := box2_0 w (.slice p a.length cap) (.slice p2 b.length cap2) 26
  have b1 := box2_1 w (.slice p a.length cap) (.slice p2 b.length cap2) 26
  have HU := Lib.hid hu
  have HB0 := Lib.hid b0
  have HB1 := Lib.hid b1
  clear h h2 hu b0 b1
  go_enter Tryz.func24, Tryz.ntmps24
  go_wp2_with fail
  generalize w.alloc (.cells #[.slice p a.length cap, .slice p2 b.length cap2] 26) = w1 at *
  go_loop [9, 10, 15] (fun _ _ i => ∃ k : Nat, k ≤ 2 ∧ i = .int .i64 k ∧ Hid (0 < k → splErr n a = 0) ∧ Hid (1 < k → splErr n b = 0)) (fun _ _ i => 2 - (intOf i).toNat)
  case atStart => exact ⟨0, Nat.zero_le _, rfl, fun h => absurd h (Nat.lt_irrefl _), fun h => absurd h (by omega)⟩
  case round =>
    obtain ⟨k, hk, rfl, hd, hd2⟩ := hrel
    have c0 := HB0.out
    have c1 := HB1.out
    by_cases k0 : k = 0
    · subst k0
      have HC := Lib.hid (HC1.out w1 HU.out)
      clear HC1 HC2 HCO
      generalize hse : splErr n a = se at *
      by_cases h0 : se = 0
      · have HZ := Lib.hid h0
        subst h0
        go_wp2_with fail
        refine HC.out.mono ?_
        rintro e w' ⟨rfl, rfl⟩
        go_wp2_with fail
        go_round
        case rel => exact ⟨1, by omega, by go_num, fun _ => (by first | rfl | trivial), fun h => absurd h (by omega)⟩
        case measure => simp [intOf]
      · have HZ := Lib.hid h0
        have d1 : (se == 0) = false := by simpa using h0
        have d2 : (se != 0) = true := by simpa using h0
        clear h0
        go_wp2_with fail
        refine HC.out.mono ?_
        rintro e w' ⟨rfl, rfl⟩
        go_wp2_with fail
        have he : cpErr n a b = se := by rw [HF.out, if_pos HZ.out]
        exact ⟨rfl, .tuple #[.bool false, .int .i64 se], by simp [results, Tryz.results24, go_sem], by rw [show cpB n a b = false by unfold cpB; rw [decide_eq_false (by rw [he]; exact HZ.out)]; rfl, he], HU.out⟩
    by_cases k1 : k = 1
    · subst k1
      have HC := Lib.hid (HC2.out w1 HU.out)
      have HA := Lib.hid (hd.out (by omega))
      clear HC1 HC2 HCO
      generalize hse : splErr n b = se at *
      by_cases h0 : se = 0
      · have HZ := Lib.hid h0
        subst h0
        go_wp2_with fail
        refine HC.out.mono ?_
        rintro e w' ⟨rfl, rfl⟩
        go_wp2_with fail
        go_round
        case rel => exact ⟨2, by omega, by go_num, fun _ => HA.out, fun _ => (by first | rfl | trivial)⟩
        case measure => simp [intOf]
      · have HZ := Lib.hid h0
        have d1 : (se == 0) = false := by simpa using h0
        have d2 : (se != 0) = true := by simpa using h0
        clear h0
        go_wp2_with fail
        refine HC.out.mono ?_
        rintro e w' ⟨rfl, rfl⟩
        go_wp2_with fail
        have he : cpErr n a b = se := by rw [HF.out, if_neg (fun e => e HA.out)]
        exact ⟨rfl, .tuple #[.bool false, .int .i64 se], by simp [results, Tryz.results24, go_sem], by rw [show cpB n a b = false by unfold cpB; rw [decide_eq_false (by rw [he]; exact HZ.out)]; rfl, he], HU.out⟩
    · obtain rfl : k = 2 := by omega
      have e1 := hd.out (by omega)
      have e2 := hd2.out (by omega)
      have HE : Hid (cpErr n a b = 0) := by unfold Hid; rw [HF.out, if_neg (fun e => e e1)]; exact e2
      have HQ := Lib.hid (HCO.out e1 e2 w1 HU.out)
      clear e1 e2 c0 c1
      generalize hcb : compB a b = cb at *
      have HCB := Lib.hid hcb
      clear hcb
      go_wp2_with fail
      refine HQ.out.mono ?_
      rintro e w' ⟨rfl, hu⟩
      have HU2 := Lib.hid (HU.out.trans hu)
      clear hu
      go_wp2_with fail
      exact ⟨rfl, .tuple #[.bool cb, .int .i64 0], by simp [results, Tryz.results24, go_sem], by rw [show cpB n a b = cb by unfold cpB; rw [decide_eq_true HE.out, HCB.out]; rfl, HE.out], HU2.out⟩
end Go.Proofs.YtcbmbhghmfehpaaGreat
