/- The tree of splits: its nodes stand for nested sets; its splits; plain. The splits of the tree of splits are these splits, each once, in order: plain. The tree of the splits of a tree is this tree, rerooted: plain. split.Distance. The example of chapter 32: what each function answers. -/
import Derived.Test.YtcbmbhghmfehpaaGreatQ21
import Derived.Test.YtcbmbhghmfehpaaGreatQ17
import Derived.Test.YtcbmbhghmfehpaaGreatQ3
import Derived.Test.YtcbmbhghmfehpaaGreatQ25
import Derived.Test.YtcbmbhghmfehpaaGreatQ30
import Derived.Test.YtcbmbhghmfehpaaGreatQ11
namespace Go.Proofs.YtcbmbhghmfehpaaGreat
theorem allI_asc (n : Nat) : (allI n).Pairwise (· < ·) := by
  unfold allI
  rw [List.pairwise_map]
  exact List.pairwise_lt_range.imp fun h => by omega
theorem rest_cons {n : Nat} (hn : 0 < n) : (0 : Int) :: complL n [0] = allI n := by
  refine asc_ext (List.pairwise_cons.2 ⟨fun x hx => ?_, memK_asc _ _⟩) (allI_asc n) fun x => ?_
  · obtain ⟨h1, h2, h3⟩ := mem_complL.1 hx
    have : x ≠ 0 := fun e => h3 (by rw [e]; simp)
    omega
  · rw [List.mem_cons, mem_complL, mem_allI]
    constructor
    · rintro (rfl | ⟨h1, h2, h3⟩)
      · omega
      · exact ⟨h1, h2⟩
    · rintro ⟨h1, h2⟩
      by_cases e : x = 0
      · exact .inl e
      · exact .inr ⟨h1, h2, fun h => e (by simpa using h)⟩
theorem rest_len {n : Nat} (hn : 0 < n) : (complL n [0]).length + 1 = n := by
  have := congrArg List.length (rest_cons hn)
  rw [allI_len, List.length_cons] at this; exact this
theorem mem_rest {n : Nat} {x : Int} : x ∈ complL n [0] ↔ 1 ≤ x ∧ x < (n : Int) := by
  rw [mem_complL]
  constructor
  · rintro ⟨h1, h2, h3⟩
    have : x ≠ 0 := fun e => h3 (by rw [e]; simp)
    omega
  · rintro ⟨h1, h2⟩
    exact ⟨by omega, h2, fun h => by have : x = 0 := by simpa using h
                                     omega⟩
section
variable {names : List ByteArray} {l : List (List Int)}
theorem BldOk.own (h : BldOk names l) {k : Nat} (hk : k < (ownQ l).length) : SplOk names.length (gl (ownQ l) k) := h.spl _ (mem_ownO.1 (gl_in hk))
theorem BldOk.lam (h : BldOk names l) {a b : List Int} (ha : a ∈ l) (hb : b ∈ l) : (∀ x ∈ a, x ∉ b) ∨ (∀ x ∈ a, x ∈ b) ∨ ∀ x ∈ b, x ∈ a := by
  obtain ⟨i, hi, rfl⟩ := in_gl ha
  obtain ⟨k, hk, rfl⟩ := in_gl hb
  rcases Nat.lt_trichotomy i k with c | c | c
  · exact (compB_iff (h.spl _ ha).set (h.spl _ hb).set).1 (h.cmp i k c hk)
  · subst c; exact .inr (.inl fun x hx => hx)
  · rcases (compB_iff (h.spl _ hb).set (h.spl _ ha).set).1 (h.cmp k i c hi) with e | e | e
    · exact .inl fun x h1 h2 => e x h2 h1
    · exact .inr (.inr e)
    · exact .inr (.inl e)
theorem own_ord {i k : Nat} (hik : i < k) (hk : k < (ownQ l).length) : (gl (ownQ l) k).length ≤ (gl (ownQ l) i).length ∧ gl (ownQ l) i ≠ gl (ownQ l) k := by
  have h := List.pairwise_iff_getElem.1 (ownQ_strict l) i k (by omega) hk hik
  have e1 : gl (ownQ l) i = (ownQ l)[i] := by simp [gl, show i < (ownQ l).length by omega]
  have e2 : gl (ownQ l) k = (ownQ l)[k] := by simp [gl, hk]
  rw [← e1, ← e2] at h
  constructor
  · unfold cmpQ at h
    split at h
    · omega
    · split at h
      · omega
      · omega
  · intro e; rw [e, cmpQ_self] at h; omega
theorem BldOk.up (h : BldOk names l) {i k : Nat} (hi : i < (ownQ l).length) (hk : k < (ownQ l).length) (hne : i ≠ k) (hs : ∀ x ∈ gl (ownQ l) k, x ∈ gl (ownQ l) i) : i < k := by
  rcases Nat.lt_trichotomy i k with c | c | c
  · exact c
  · exact absurd c hne
  · obtain ⟨h1, h2⟩ := own_ord c hi
    have a1 := (h.own hi).set.asc
    have a2 := (h.own hk).set.asc
    have h3 := asc_sub_len a2 a1 hs
    exact absurd (asc_ext a2 a1 fun x => ⟨hs x, asc_sub_eq a2 a1 hs (by omega) x⟩) h2
theorem BldOk.down (h : BldOk names l) {i k : Nat} (hi : i < k) (hk : k < (ownQ l).length) {x : Int} (h1 : x ∈ gl (ownQ l) i) (h2 : x ∈ gl (ownQ l) k) : ∀ y ∈ gl (ownQ l) k, y ∈ gl (ownQ l) i := by
  rcases h.lam (mem_ownO.1 (gl_in (show i < (ownQ l).length by omega))) (mem_ownO.1 (gl_in hk)) with e | e | e
  · exact absurd h2 (e x h1)
  · have := h.up (i := k) (k := i) hk (by omega) (by omega) e
    omega
  · exact e
theorem bS_own {own : List (List Int)} {k : Nat} (hk : k < own.length) : bS names own (3 + k) = gl own k := by
  unfold bS
  rw [if_neg (by omega), if_neg (by omega), if_neg (by omega), if_pos (by omega), show 3 + k - 3 = k by omega]
theorem bS_leaf {own : List (List Int)} {b : Nat} (hb : 1 ≤ b) : bS names own (2 + own.length + b) = [(b : Int)] := by
  unfold bS
  rw [if_neg (by omega), if_neg (by omega), if_neg (by omega), if_neg (by omega), show 2 + own.length + b - 2 - own.length = b by omega]
theorem bS_cases {own : List (List Int)} {n i : Nat} (hi : i < 3 + own.length + (n - 1)) : i = 0 ∨ i = 1 ∨ i = 2 ∨ (∃ k, k < own.length ∧ i = 3 + k) ∨ ∃ b, 1 ≤ b ∧ b < n ∧ i = 2 + own.length + b := by
  by_cases h0 : i = 0
  · exact .inl h0
  by_cases h1 : i = 1
  · exact .inr (.inl h1)
  by_cases h2 : i = 2
  · exact .inr (.inr (.inl h2))
  by_cases h3 : i < 3 + own.length
  · exact .inr (.inr (.inr (.inl ⟨i - 3, by omega, by omega⟩)))
  · exact .inr (.inr (.inr (.inr ⟨i - 2 - own.length, by omega, by omega, by omega⟩)))
theorem BldOk.kind (h : BldOk names l) (h3 : 3 ≤ names.length) {i : Nat} (hi : i < 3 + (ownQ l).length + (names.length - 1)) :
    ((bS names (ownQ l) i).Pairwise (· < ·) ∧ (∀ x ∈ bS names (ownQ l) i, 0 ≤ x ∧ x < (names.length : Int))) ∧
    ((i = 0 ∧ (bS names (ownQ l) i).length = names.length) ∨ (i = 1 ∧ (bS names (ownQ l) i).length = 1 ∧ bS names (ownQ l) i = [0]) ∨ (i = 2 ∧ (bS names (ownQ l) i).length + 1 = names.length) ∨
      (∃ k, k < (ownQ l).length ∧ i = 3 + k ∧ bS names (ownQ l) i = gl (ownQ l) k ∧ 2 ≤ (bS names (ownQ l) i).length ∧ (bS names (ownQ l) i).length + 2 ≤ names.length) ∨
      ∃ b : Nat, 1 ≤ b ∧ b < names.length ∧ i = 2 + (ownQ l).length + b ∧ bS names (ownQ l) i = [(b : Int)] ∧ (bS names (ownQ l) i).length = 1) := by
  rcases bS_cases hi with rfl | rfl | rfl | ⟨k, hk, rfl⟩ | ⟨b, hb, hbn, rfl⟩
  · exact ⟨⟨allI_asc _, fun x hx => mem_allI.1 hx⟩, .inl ⟨rfl, allI_len _⟩⟩
  · exact ⟨⟨by simp [bS], fun x hx => by have : x = 0 := by simpa [bS] using hx
                                         omega⟩, .inr (.inl ⟨rfl, rfl, rfl⟩)⟩
  · exact ⟨⟨memK_asc _ _, fun x hx => by have := mem_rest.1 hx; omega⟩, .inr (.inr (.inl ⟨rfl, rest_len (by omega)⟩))⟩
  · have ho := h.own hk
    have hl := ho.len
    refine ⟨?_, .inr (.inr (.inr (.inl ⟨k, hk, rfl, bS_own hk, ?_, ?_⟩)))⟩
    · rw [bS_own hk]
      exact ⟨ho.set.asc, fun x hx => by have := ho.bd x hx; omega⟩
    · rw [bS_own hk]; omega
    · rw [bS_own hk]; omega
  · refine ⟨?_, .inr (.inr (.inr (.inr ⟨b, hb, hbn, rfl, bS_leaf hb, by rw [bS_leaf hb]; rfl⟩)))⟩
    rw [bS_leaf hb]
    exact ⟨by simp, fun x hx => by have : x = (b : Int) := by simpa using hx
                                   omega⟩
theorem own_x {s : List Int} {n : Int} (h : SplOk n s) : gi s 0 ∈ s := gi_in (by have := h.len; omega)
theorem bld_sets (h : BldOk names l) (h3 : 3 ≤ names.length) (hsm : 3 + (ownQ l).length + (names.length - 1) ≤ 64) : NodeSets names (bT names (ownQ l)) (bS names (ownQ l)) := by
  have hlen : (bT names (ownQ l)).ps.length = 3 + (ownQ l).length + (names.length - 1) := bT_len
  have hrest : bS names (ownQ l) 2 = complL names.length [0] := rfl
  have hall : bS names (ownQ l) 0 = allI names.length := rfl
  have hone : bS names (ownQ l) 1 = [0] := rfl
  have sub0 : ∀ i, i < 3 + (ownQ l).length + (names.length - 1) → ∀ x ∈ bS names (ownQ l) i, x ∈ bS names (ownQ l) 0 := fun i hi x hx => by
    rw [hall]; exact mem_allI.2 ((h.kind h3 hi).1.2 x hx)
  have ownRest : ∀ k, k < (ownQ l).length → ∀ x ∈ gl (ownQ l) k, x ∈ bS names (ownQ l) 2 := fun k hk x hx => by
    rw [hrest]; exact mem_rest.2 ((h.own hk).bd x hx)
  -- the least set above a number and what holds it
  have least : ∀ (x : Int) (k : Nat), k ≤ (ownQ l).length → 1 ≤ x → x < names.length → ∃ p, p < 3 + k ∧ lastQ (ownQ l) x k = (p : Int) ∧ 2 ≤ p ∧ x ∈ bS names (ownQ l) p ∧ (p < 3 + (ownQ l).length) ∧
      (∀ q, q < k → x ∈ gl (ownQ l) q → ∀ y ∈ bS names (ownQ l) p, y ∈ gl (ownQ l) q) ∧ (∀ y ∈ bS names (ownQ l) p, y ∈ bS names (ownQ l) 2) := fun x k hk x1 xn => by
    rcases lastQ_spec (ownQ l) x k with ⟨h1, h2⟩ | ⟨p, p1, p2, p3, p4⟩
    · exact ⟨2, by omega, h1, by omega, by rw [hrest]; exact mem_rest.2 ⟨x1, xn⟩, by omega, fun q hq hx => absurd hx (h2 q hq), fun y hy => hy⟩
    · refine ⟨3 + p, by omega, p2, by omega, by rw [bS_own (by omega)]; exact p3, by omega, fun q hq hx => ?_, ?_⟩
      · rw [bS_own (by omega)]
        rcases Nat.lt_trichotomy q p with c | c | c
        · exact h.down c (by omega) hx p3
        · subst c; exact fun y hy => hy
        · exact absurd hx (p4 q c hq)
      · rw [bS_own (show p < (ownQ l).length by omega)]
        exact ownRest p (by omega)
  refine ⟨h.nm, h.nd, by rw [hlen]; omega, by rw [hlen]; exact hsm, by rw [bT_nlen, hlen], by rw [bT_ps, if_pos rfl], fun b hb => by rw [hall]; exact mem_allI.2 ⟨by omega, by omega⟩, fun i hi => ?_, fun i h0 hi => ?_, fun i j hi hj h1 h2 => ?_, fun b hb => ?_, fun i hi => ?_, fun i hi => ?_⟩
  · rw [hlen] at hi
    obtain ⟨⟨k1, k2⟩, k3⟩ := h.kind h3 hi
    refine ⟨k2, fun e => ?_⟩
    rw [e] at k3
    simp only [List.length_nil] at k3
    rcases k3 with k3 | k3 | k3 | ⟨k, _, _, _, k4, _⟩ | ⟨b, _, _, _, _, k4⟩
    · omega
    · omega
    · omega
    · omega
    · omega
  · rw [hlen] at hi
    rw [bT_ps, if_neg (by omega)]
    rcases bS_cases hi with rfl | rfl | rfl | ⟨k, hk, rfl⟩ | ⟨b, hb, hbn, rfl⟩
    · omega
    · refine ⟨0, by omega, rfl, sub0 1 (by omega), fun j hj hj1 hs => ?_⟩
      rw [hlen] at hj
      rw [hone] at hs
      have hs := hs 0 (by simp)
      rcases bS_cases hj with rfl | rfl | rfl | ⟨k, hk, rfl⟩ | ⟨b, hb, hbn, rfl⟩
      · exact fun x hx => hx
      · exact absurd rfl hj1
      · rw [hrest] at hs; have := mem_rest.1 hs; omega
      · rw [bS_own hk] at hs; have := (h.own hk).bd 0 hs; omega
      · rw [bS_leaf hb] at hs; have : (0 : Int) = b := by simpa using hs
        omega
    · refine ⟨0, by omega, rfl, sub0 2 (by omega), fun j hj hj1 hs => ?_⟩
      rw [hlen] at hj
      obtain ⟨⟨k1, k2⟩, k3⟩ := h.kind h3 hj
      have hl2 := asc_sub_len (memK_asc _ _) k1 (by rw [hrest] at hs; exact hs)
      have hl3 := rest_len (n := names.length) (by omega)
      have hl2 : (complL names.length [0]).length ≤ (bS names (ownQ l) j).length := hl2
      rcases k3 with ⟨rfl, _⟩ | ⟨_, k3, _⟩ | ⟨rfl, _⟩ | ⟨k, _, _, _, _, k4⟩ | ⟨b, _, _, _, _, k4⟩
      · exact fun x hx => hx
      · omega
      · exact absurd rfl hj1
      · omega
      · omega
    · rw [if_neg (by omega), if_pos (by omega), show 3 + k - 3 = k by omega]
      have ho := h.own hk
      have hx := own_x ho
      have hxb := ho.bd _ hx
      obtain ⟨p, p1, p2, p2', p3, p4, p5, p6⟩ := least (gi (gl (ownQ l) k) 0) k (by omega) hxb.1 hxb.2
      have hsub : ∀ y ∈ gl (ownQ l) k, y ∈ bS names (ownQ l) p := by
        rcases bS_cases (n := names.length) (show p < 3 + (ownQ l).length + (names.length - 1) by omega) with rfl | rfl | rfl | ⟨q, hq, rfl⟩ | ⟨b, hb, hbn, rfl⟩
        · omega
        · omega
        · exact ownRest k hk
        · rw [bS_own hq] at p3 ⊢
          exact h.down (by omega) hk p3 hx
        · omega
      refine ⟨p, by omega, p2, by rw [bS_own hk]; exact hsub, fun j hj hj1 hs => ?_⟩
      rw [hlen] at hj
      rw [bS_own hk] at hs
      have hsx := hs _ hx
      rcases bS_cases hj with rfl | rfl | rfl | ⟨q, hq, rfl⟩ | ⟨b, hb, hbn, rfl⟩
      · exact sub0 p (by omega)
      · rw [hone] at hsx; have : gi (gl (ownQ l) k) 0 = 0 := by simpa using hsx
        omega
      · exact p6
      · rw [bS_own hq] at hs hsx ⊢
        have hqk := h.up hq hk (fun e => hj1 (by rw [e])) hs
        exact p5 q hqk hsx
      · exfalso
        rw [bS_leaf hb] at hs
        have q1 := asc_sub_len ho.set.asc (by simp) hs
        have q2 := ho.len
        rw [List.length_singleton] at q1
        omega
    · rw [if_neg (by omega), if_neg (by omega), if_pos (by omega), show 2 + (ownQ l).length + b - 2 - (ownQ l).length = b by omega]
      obtain ⟨p, p1, p2, p2', p3, p4, p5, p6⟩ := least (b : Int) (ownQ l).length (Nat.le_refl _) (by omega) (by omega)
      refine ⟨p, by omega, p2, by rw [bS_leaf hb]; intro x hx; have : x = (b : Int) := by simpa using hx
                                  rw [this]; exact p3, fun j hj hj1 hs => ?_⟩
      rw [hlen] at hj
      rw [bS_leaf hb] at hs
      have hsx := hs (b : Int) (by simp)
      rcases bS_cases hj with rfl | rfl | rfl | ⟨q, hq, rfl⟩ | ⟨b', hb', hbn', rfl⟩
      · exact sub0 p (by omega)
      · rw [hone] at hsx; have : (b : Int) = 0 := by simpa using hsx
        omega
      · exact p6
      · rw [bS_own hq] at hsx ⊢
        exact p5 q hq hsx
      · rw [bS_leaf hb'] at hsx; have : (b : Int) = b' := by simpa using hsx
        exact absurd (by rw [show b' = b by omega]) hj1
  · rw [hlen] at hi hj
    obtain ⟨⟨a1, a2⟩, a3⟩ := h.kind h3 hi
    obtain ⟨⟨c1, c2⟩, c3⟩ := h.kind h3 hj
    have e := asc_ext a1 c1 fun x => ⟨h1 x, h2 x⟩
    have el := congrArg List.length e
    rcases a3 with ⟨rfl, a4⟩ | ⟨rfl, a4, a5⟩ | ⟨rfl, a4⟩ | ⟨k, hk, rfl, a6, a4, a5⟩ | ⟨b, b1, b2, rfl, a5, a4⟩ <;>
    rcases c3 with ⟨rfl, c4⟩ | ⟨rfl, c4, c5⟩ | ⟨rfl, c4⟩ | ⟨k', hk', rfl, c6, c4, c5⟩ | ⟨b', d1, d2, rfl, c5, c4⟩ <;>
    first | omega | skip
    · rw [a5, c5] at e; injection e with e; omega
    · rw [a6, c6] at e
      rcases Nat.lt_trichotomy k k' with c | c | c
      · exact absurd e (own_ord c hk').2
      · rw [c]
      · exact absurd e.symm (own_ord c hk).2
    · rw [a5, c5] at e; injection e with e; omega
    · rw [a5, c5] at e; injection e with e; omega
  · by_cases h0 : b = 0
    · subst h0; exact ⟨1, by rw [hlen]; omega, rfl⟩
    · exact ⟨2 + (ownQ l).length + b, by rw [hlen]; omega, bS_leaf (by omega)⟩
  · rw [hlen] at hi
    unfold bT
    rcases bS_cases hi with rfl | rfl | rfl | ⟨k, hk, rfl⟩ | ⟨b, hb, hbn, rfl⟩
    · rw [hall, nmI, if_neg (by rw [allI_len]; omega)]; rfl
    · rfl
    · rw [hrest, nmI, if_neg (by have := rest_len (n := names.length) (by omega); omega)]; rfl
    · have := (h.own hk).len
      rw [bS_own hk, nmI, if_neg (by omega), show 3 + k = k + 1 + 1 + 1 by omega]
      show gs (List.replicate (ownQ l).length ByteArray.empty ++ (List.range (names.length - 1)).map fun b => gs names (b + 1)) k = _
      simp [gs, List.getElem?_append, hk]
    · obtain ⟨c, rfl⟩ : ∃ c, b = c + 1 := ⟨b - 1, by omega⟩
      rw [bS_leaf hb]
      have e1 : nmI names [((c + 1 : Nat) : Int)] = gs names (c + 1) := by
        unfold nmI
        rw [if_pos (show [((c + 1 : Nat) : Int)].length = 1 from rfl)]
        show gs names ((c + 1 : Nat) : Int).toNat = _
        rw [Int.toNat_natCast]
      rw [e1, show 2 + (ownQ l).length + (c + 1) = (ownQ l).length + c + 1 + 1 + 1 by omega]
      show gs (List.replicate (ownQ l).length ByteArray.empty ++ (List.range (names.length - 1)).map fun b => gs names (b + 1)) ((ownQ l).length + c) = _
      simp [gs, show c < names.length - 1 by omega]
  · rw [hlen] at hi
    exact set_nodup (h.kind h3 hi).1.1
end
end Go.Proofs.YtcbmbhghmfehpaaGreat
namespace Go.Proofs.YtcbmbhghmfehpaaGreat
section
variable {names : List ByteArray} {t : Tre} {S : Nat → List Int} {l : List (List Int)}
theorem nodup_nd (h : ∀ j k, j < k → k < names.length → gs names k ≠ gs names j) : names.Nodup :=
  List.pairwise_iff_getElem.2 fun i j hi hj hij e => h i j hij hj (by simp [gs, hi, hj, e])
theorem NodeSets.nmperm (h : NodeSets names t S) : (leafR (toR t)).Perm names := by
  refine (List.perm_ext_iff_of_nodup h.oku.nd (nodup_nd h.nd)).2 fun y => ?_
  have h1 := h.leaves _ 0 (Nat.le_refl _) h.n0 y
  constructor
  · intro hy
    obtain ⟨b, hb, rfl⟩ := h1.1 hy
    have hb := (h.bd 0 h.n0).1 _ hb
    have hb : b < names.length := by omega
    simp [gs, hb]
  · intro hy
    obtain ⟨b, hb, e⟩ := List.mem_iff_getElem.1 hy
    exact h1.2 ⟨b, h.top b hb, by simp [gs, hb, e]⟩
theorem ofok_of (ht : treeErr t = 0) (hp : (fltN t.ns).Perm names) (hle : names.length ≤ 32) (hnd : ∀ j k, j < k → k < names.length → gs names k ≠ gs names j) : OfOk t names := by
  obtain ⟨_, _, hl, _, _⟩ := treeErr_zero ht
  refine ⟨ht, hle, hnd, by rw [lvs_count, hp.length_eq], fun j hj h0 => ?_⟩
  obtain ⟨b, hb, e⟩ := List.mem_iff_getElem.1 (hp.mem_iff.1 (mem_flt.2 ⟨j, by omega, rfl, h0⟩))
  exact ⟨b, hb, by rw [← e]; simp [gs, hb]⟩
theorem NodeSets.ofok0 (h : NodeSets names t S) (hle : names.length ≤ 32) : OfOk t names :=
  ofok_of h.tree ((leafs_perm h.tree).symm.trans h.nmperm) hle h.nd
def twoS (i : Nat) : List Int := if i = 0 then [0, 1] else if i = 1 then [0] else [1]
theorem two_sets (h : BldOk names l) (h2 : names.length = 2) : NodeSets names ⟨[-1, 0, 0], [ByteArray.empty, gs names 0, gs names 1]⟩ twoS := by
  have c3 : ∀ i, i < ([-1, 0, 0] : List Int).length → i = 0 ∨ i = 1 ∨ i = 2 := fun i hi => by simp at hi; omega
  refine ⟨h.nm, h.nd, by simp, by simp, rfl, rfl, fun b hb => ?_, fun i hi => ?_, fun i h0 hi => ?_, fun i j hi hj hij hji => ?_, fun b hb => ?_, fun i hi => ?_, fun i hi => ?_⟩
  · have : b = 0 ∨ b = 1 := by omega
    rcases this with rfl | rfl <;> simp [twoS]
  · rcases c3 i hi with rfl | rfl | rfl
    · exact ⟨fun x hx => by have : x = 0 ∨ x = 1 := by simpa [twoS] using hx
                            omega, by simp [twoS]⟩
    · exact ⟨fun x hx => by have : x = 0 := by simpa [twoS] using hx
                            omega, by simp [twoS]⟩
    · exact ⟨fun x hx => by have : x = 1 := by simpa [twoS] using hx
                            omega, by simp [twoS]⟩
  · have : i = 1 ∨ i = 2 := by have := c3 i hi; omega
    refine ⟨0, by omega, by rcases this with rfl | rfl <;> rfl, fun x hx => ?_, fun j hj hji hs => ?_⟩
    · rcases this with rfl | rfl
      · have : x = 0 := by simpa [twoS] using hx
        subst this; simp [twoS]
      · have : x = 1 := by simpa [twoS] using hx
        subst this; simp [twoS]
    · rcases c3 j hj with rfl | rfl | rfl
      · exact fun x hx => hx
      · have : i = 2 := by omega
        subst this
        have := hs 1 (by simp [twoS])
        simp [twoS] at this
      · have : i = 1 := by omega
        subst this
        have := hs 0 (by simp [twoS])
        simp [twoS] at this
  · rcases c3 i hi with rfl | rfl | rfl <;> rcases c3 j hj with rfl | rfl | rfl <;> first | rfl | (simp [twoS] at hij hji)
  · have : b = 0 ∨ b = 1 := by omega
    rcases this with rfl | rfl
    · exact ⟨1, by simp, rfl⟩
    · exact ⟨2, by simp, rfl⟩
  · rcases c3 i hi with rfl | rfl | rfl <;> rfl
  · rcases c3 i hi with rfl | rfl | rfl <;> simp [twoS]
end
end Go.Proofs.YtcbmbhghmfehpaaGreat
namespace Go.Proofs.YtcbmbhghmfehpaaGreat
theorem parts_lam : ∀ (d : Nat) (r : RT), sizeR r ≤ d → GoodR r → ∀ p ∈ subR r, ∀ q ∈ subR r, p ∈ subR q ∨ q ∈ subR p ∨ ∀ x, x ∈ leafR p → x ∉ leafR q
  | 0, r, hd, _ => by have := sizeR_pos r; omega
  | d + 1, .node nm ks, hd, h => fun p hp q hq => by
    rw [subR, List.mem_cons] at hp hq
    rcases hp with rfl | hp
    · exact .inr (.inl (by rw [subR, List.mem_cons]; exact hq))
    rcases hq with rfl | hq
    · exact .inl (by rw [subR, List.mem_cons]; exact .inr hp)
    obtain ⟨k1, h1, hp⟩ := mem_subRs_ex hp
    obtain ⟨k2, h2, hq⟩ := mem_subRs_ex hq
    obtain ⟨i, hi, rfl⟩ := List.getElem_of_mem h1
    obtain ⟨j, hj, rfl⟩ := List.getElem_of_mem h2
    have h0 : ks ≠ [] := fun e => by subst e; simp at hi
    by_cases hij : i = j
    · subst hij
      have hk := mem_kid (nm := nm) (List.getElem_mem hi)
      exact parts_lam d _ (by have := size_kid (nm := nm) (List.getElem_mem hi); omega) (h.sub hk) p hp q hq
    · refine .inr (.inr fun x hx hx2 => ?_)
      have hn := h.nd
      rw [leafR_node (show nm.size = 0 from h.inn _ (subR_self _) h0), List.nodup_iff_pairwise_ne, List.pairwise_flatMap] at hn
      have hpw := List.pairwise_iff_getElem.1 hn.2
      have e1 := (leafR_sub hp).subset hx
      have e2 := (leafR_sub hq).subset hx2
      rcases Nat.lt_trichotomy i j with c | c | c
      · exact absurd rfl (hpw i j hi hj c x e1 x e2)
      · exact hij c
      · exact absurd rfl (hpw j i hj hi c x e2 x e1)
section
variable {names : List ByteArray} {t : Tre} {S : Nat → List Int} {l : List (List Int)} {la : Nat}
theorem lvS_root (h : OfOk t names) {x : Int} : x ∈ lvS t names 0 ↔ 0 ≤ x ∧ x < (names.length : Int) := by
  constructor
  · intro hx; have := mem_lvS.1 hx; exact ⟨this.1, this.2.1⟩
  · rintro ⟨x0, xn⟩
    obtain ⟨b, rfl⟩ := Int.eq_ofNat_of_zero_le x0
    obtain ⟨j, hj, h3, h4⟩ := of_names h (show b < names.length by omega)
    exact mem_lvS.2 ⟨x0, xn, j, hj, hit_rootS h.te j hj, h3, by rw [h4, fd_of h.nd (by omega)]⟩
theorem of_all (h : OfOk t names) {x : ByteArray} : x ∈ leafR (toR t) ↔ ∃ b : Nat, b < names.length ∧ x = gs names b := by
  have h1 := lvS_lv h (treeErr_zero h.te).1 x
  constructor
  · intro hx
    obtain ⟨b, hb, e⟩ := h1.1 hx
    have := (lvS_root h).1 hb
    exact ⟨b, by omega, e⟩
  · rintro ⟨b, hb, e⟩
    exact h1.2 ⟨b, (lvS_root h).2 ⟨by omega, by omega⟩, e⟩
theorem splS_lam {n : Nat} {X Y : List Int} (hX : ∀ x ∈ X, 0 ≤ x ∧ x < (n : Int)) (hY : ∀ x ∈ Y, 0 ≤ x ∧ x < (n : Int)) (h : (∀ x ∈ X, x ∉ Y) ∨ (∀ x ∈ X, x ∈ Y) ∨ ∀ x ∈ Y, x ∈ X) :
    (∀ x ∈ splS n X, x ∉ splS n Y) ∨ (∀ x ∈ splS n X, x ∈ splS n Y) ∨ ∀ x ∈ splS n Y, x ∈ splS n X := by
  by_cases hx : (0 : Int) ∈ X <;> by_cases hy : (0 : Int) ∈ Y
  · rw [show splS n X = complL n X from if_pos (List.contains_iff_mem.2 hx), show splS n Y = complL n Y from if_pos (List.contains_iff_mem.2 hy)]
    simp only [mem_complL]
    rcases h with h | h | h
    · exact absurd hy (h 0 hx)
    · exact .inr (.inr fun x ⟨a, b, c⟩ => ⟨a, b, fun e => c (h x e)⟩)
    · exact .inr (.inl fun x ⟨a, b, c⟩ => ⟨a, b, fun e => c (h x e)⟩)
  · rw [show splS n X = complL n X from if_pos (List.contains_iff_mem.2 hx), show splS n Y = Y from if_neg fun e => hy (List.contains_iff_mem.1 e)]
    simp only [mem_complL]
    rcases h with h | h | h
    · exact .inr (.inr fun x hx => ⟨(hY x hx).1, (hY x hx).2, fun e => h x e hx⟩)
    · exact absurd (h 0 hx) hy
    · exact .inl fun x ⟨a, b, c⟩ e => c (h x e)
  · rw [show splS n Y = complL n Y from if_pos (List.contains_iff_mem.2 hy), show splS n X = X from if_neg fun e => hx (List.contains_iff_mem.1 e)]
    simp only [mem_complL]
    rcases h with h | h | h
    · exact .inr (.inl fun x hx => ⟨(hX x hx).1, (hX x hx).2, fun e => h x hx e⟩)
    · exact .inl fun x hx ⟨a, b, c⟩ => c (h x hx)
    · exact absurd (h 0 hy) hx
  · rw [show splS n Y = Y from if_neg fun e => hy (List.contains_iff_mem.1 e), show splS n X = X from if_neg fun e => hx (List.contains_iff_mem.1 e)]
    exact h
theorem splO_comp (h : OfOk t names) {a b : List Int} (ha : a ∈ splO t names) (hb : b ∈ splO t names) : compB a b = true := by
  obtain ⟨a1, p, hp, X, aX, bX, lX, rfl⟩ := (mem_splO h).1 ha
  obtain ⟨b1, q, hq, Y, aY, bY, lY, rfl⟩ := (mem_splO h).1 hb
  refine (compB_iff a1.set b1.set).2 (splS_lam bX bY ?_)
  have up : ∀ {X Y : List Int} {p q : RT}, (∀ x ∈ X, 0 ≤ x ∧ x < (names.length : Int)) → (∀ x ∈ Y, 0 ≤ x ∧ x < (names.length : Int)) → Lv names p X → Lv names q Y → p ∈ subR q → ∀ x ∈ X, x ∈ Y := fun {X Y p q} bX bY lX lY h2 x hx => by
    obtain ⟨x0, xn⟩ := bX x hx
    obtain ⟨b, rfl⟩ := Int.eq_ofNat_of_zero_le x0
    obtain ⟨b', hb', e⟩ := (lY _).1 ((leafR_sub h2).subset ((lX _).2 ⟨b, hx, rfl⟩))
    have := bY _ hb'
    have := nd_inj h.nd (a := b) (b := b') (by omega) (by omega) e
    rw [this]; exact hb'
  rcases parts_lam _ (toR t) (Nat.le_refl _) (good_toR h.te) p hp q hq with h2 | h2 | h2
  · exact .inr (.inl (up bX bY lX lY h2))
  · exact .inr (.inr (up bY bX lY lX h2))
  · refine .inl fun x hx hy => ?_
    obtain ⟨x0, xn⟩ := bX x hx
    obtain ⟨b, rfl⟩ := Int.eq_ofNat_of_zero_le x0
    exact h2 _ ((lX _).2 ⟨b, hx, rfl⟩) ((lY _).2 ⟨b, hy, rfl⟩)
theorem splO_len (t : Tre) (names : List ByteArray) : (splO t names).length ≤ t.ps.length := by
  unfold splO
  split
  · unfold ordX
    refine Nat.le_trans (cptX_len _) ?_
    rw [(sortX_perm _).length_eq]
    unfold rawO
    refine Nat.le_trans (List.length_filter_le _ _) ?_
    rw [List.length_map]
    refine Nat.le_trans (List.length_filter_le _ _) ?_
    rw [List.length_range]; exact Nat.le_refl _
  · exact Nat.zero_le _
theorem of_bld (h : OfOk t names) : BldOk names (splO t names) := by
  obtain ⟨h0, h64, hl, _, _⟩ := treeErr_zero h.te
  have hgood := good_toR h.te
  refine ⟨?_, h.le, Nat.le_trans (splO_len t names) h64, fun k hk => ?_, h.nd, fun s hs => ((mem_splO h).1 hs).1, fun i k hik hk => splO_comp h (gl_in (by omega)) (gl_in hk)⟩
  · obtain ⟨x, hx⟩ := hgood.meet (subR_self _)
    obtain ⟨b, hb, _⟩ := (of_all h).1 hx
    omega
  · obtain ⟨j, hj, h3, h4⟩ := of_names h hk
    rw [← h4]
    exact tleaf_named h.te hj (LeafOk.nokid ⟨h.te, hj, h3⟩)
end
end Go.Proofs.YtcbmbhghmfehpaaGreat
namespace Go.Proofs.YtcbmbhghmfehpaaGreat
open Go.RowKit Go.Deep
theorem distEq_t (S T : Nat → Prop) (w : World) (b : Nat) (v u : Value) (s x : List Int) (hb : w.cell? ⟨b, 0, none⟩ = some v) (h : IntsAt S w v s) (h2 : IntsAt T w u x) (hn : s.length ≤ 1000000) (hm : x.length ≤ 1000000) :
    FnD 122 #[.pointer (some ⟨b, 0, none⟩)] #[u] (.bool (decide (s = x))) w := by
  intro m
  have hb := (Up.drewN w m).cell hb
  have HE := Lib.hid (equal_int_t S T (w.drewN m) v u s x (IntsAt.keep h ((Up.drewN w m).kept _)) (IntsAt.keep h2 ((Up.drewN w m).kept _)) hn hm)
  obtain ⟨p, cap, rfl, -, -⟩ := SlAt.open h
  obtain ⟨q, caq, rfl, -, -⟩ := SlAt.open h2
  clear h h2
  go_enter Tryz.func122, Tryz.ntmps122
  go_wp2_with fail
  refine HE.out.mono ?_
  rintro e w' ⟨rfl, n, rfl⟩
  go_wp2_with fail
  go_ret
  exact ⟨rfl, m + n, rfl⟩
set_option maxRecDepth 100000 in
set_option maxHeartbeats 1000000 in
theorem only_t (S T : Nat → Prop) (w : World) (v u : Value) (a b : List (List Int)) (h : RowsAt S w v a) (h2 : RowsAt T w u b) (hn : a.length ≤ 1000000) (hm : b.length ≤ 1000000) (hr : ∀ k, (gl a k).length ≤ 1000000) (hq : ∀ k, (gl b k).length ≤ 1000000) :
    Calls Tryz.prog 121 #[v, u] w fun e w' => e = .returned (.int .i64 (onlyN a b : Int)) ∧ Up w w' := by
  have HO : Hid (∀ k, onlyK a b (k + 1) = onlyK a b k + if hasL b (gl a k) then 0 else 1) := fun _ => rfl
  have HON : Hid (onlyN a b = onlyK a b a.length) := rfl
  have HLE := Lib.hid (onlyK_le a b)
  obtain ⟨p, pc, rfl, -, -⟩ := rows_open h
  obtain ⟨q, qc, rfl, -, -⟩ := rows_open h2
  have HA : Hid (RowsAt S w (.slice p a.length pc) a) := h
  have HB : Hid (RowsAt T w (.slice q b.length qc) b) := h2
  have HR := Lib.hid hr
  have HQ := Lib.hid hq
  clear h h2 hr hq
  go_enter Tryz.func121, Tryz.ntmps121
  go_wp2_with fail
  go_loopw [5, 7, 10] (fun n _ i wr => ∃ k : Nat, k ≤ a.length ∧ i = .int .i64 k ∧ n = .int .i64 (onlyK a b k : Int) ∧ Hid (Up w wr)) (fun _ _ i _ => a.length - (intOf i).toNat)
  case atStart => exact ⟨0, Nat.zero_le _, rfl, rfl, Up.refl _⟩
  case round =>
    obtain ⟨k, hk, rfl, rfl, hU⟩ := hrel
    obtain ⟨wo, rfl⟩ : ∃ wo : World, wo = wr := ⟨_, rfl⟩
    by_cases hlt : k < a.length
    · obtain ⟨ab, ao, x, c, rfl, hc, hi⟩ := rows_get (RowsAt.keep HA.out (hU.out.kept _)) hlt
      have hu2 := Up.alloc wo (.cells #[.slice x (gl a k).length c] 26)
      have hb := box1_0 wo (.slice x (gl a k).length c) 26
      obtain ⟨f, hf1, hf2⟩ := RowsAt.keep HB.out ((hU.out.trans hu2).kept _)
      have HC := Lib.hid (rows_has_d 122 #[.pointer (some ⟨wo.heap.size, 0, none⟩)] (enters_of Tryz.func122 (by kernel_rfl) rfl) T _ _ b.length f (fun j => decide (gl a k = gl b j)) hf1 hm
        (fun j hj => distEq_t S T _ _ _ _ _ _ hb (IntsAt.keep hi (hu2.kept _)) (hf2 j hj) (HR.out k) (HQ.out j)))
      have HHL : Hid ((List.range b.length).any (fun j => decide (gl a k = gl b j)) = hasL b (gl a k)) := rfl
      rw [HHL.out] at HC
      have HU2 := Lib.hid (hU.out.trans hu2)
      have HOK := Lib.hid (HO.out k)
      have k1 : (0 : Int) ≤ (k : Int) := Int.natCast_nonneg _
      have k2 : (k : Int) < (a.length : Int) := by omega
      have k3 : (onlyK a b k : Int) ≤ (k : Int) := by have := HLE.out k; omega
      clear hb hf1 hf2 hi hU hu2 HHL
      generalize hasL b (gl a k) = bb at *
      cases bb
      · have HX : Hid ((onlyK a b (k + 1) : Int) = (onlyK a b k : Int) + 1) := by unfold Hid; rw [HOK.out]; simp
        clear HOK
        go_wp2_with fail
        refine HC.out.mono ?_
        rintro e w' ⟨rfl, nq, rfl⟩
        go_wp2_with fail
        go_roundw
        case rel => exact ⟨k + 1, by omega, by go_num, by rw [HX.out], HU2.out.trans (Up.drewN _ nq)⟩
        case measure => simp [intOf]; omega
      · have HX : Hid ((onlyK a b (k + 1) : Int) = (onlyK a b k : Int)) := by unfold Hid; rw [HOK.out]; simp
        clear HOK
        go_wp2_with fail
        refine HC.out.mono ?_
        rintro e w' ⟨rfl, nq, rfl⟩
        go_wp2_with fail
        go_roundw
        case rel => exact ⟨k + 1, by omega, by go_num, by rw [HX.out], HU2.out.trans (Up.drewN _ nq)⟩
        case measure => simp [intOf]; omega
    · obtain rfl : k = a.length := by omega
      have HUU := Lib.hid hU.out
      clear hU
      go_wp2_with fail
      go_ret
      exact ⟨ret_int (by rw [HON.out]), HUU.out⟩
def dsErr (t u : Tre) (names : List ByteArray) : Int := if splOErr t names ≠ 0 then splOErr t names else splOErr u names
def dsN (t u : Tre) (names : List ByteArray) : Nat := if dsErr t u names = 0 then distN (splO t names) (splO u names) else 0
theorem splO_row (t : Tre) (names : List ByteArray) (k : Nat) : (gl (splO t names) k).length ≤ 64 := by
  by_cases hk : k < (splO t names).length
  · by_cases he : splOErr t names = 0
    · have ho := splO_ok.1 he
      have := ((of_bld ho).spl _ (gl_in hk)).len
      have := ho.le
      omega
    · unfold splO at hk
      rw [if_neg he] at hk
      exact absurd hk (Nat.not_lt_zero _)
  · simp [gl, show (splO t names).length ≤ k by omega]
set_option maxRecDepth 100000 in
set_option maxHeartbeats 2000000 in
theorem distance_t (S : Nat → Prop) (w : World) (v v2 vs : Value) (t u : Tre) (names : List ByteArray) (hT : TreeAt S w v t) (hU : TreeAt S w v2 u) (hV : StrsAt S w vs names) (hp : t.ps.length ≤ 1000000) (hn : t.ns.length ≤ 1000000) (hz : ∀ k, (gs t.ns k).size ≤ 70000) (hp2 : u.ps.length ≤ 1000000) (hn2 : u.ns.length ≤ 1000000) (hz2 : ∀ k, (gs u.ns k).size ≤ 70000) (hnl : names.length ≤ 1000000) :
    Calls Tryz.prog 52 #[v, v2, vs] w fun e w' => e = .returned (.tuple #[.int .i64 (dsN t u names : Int), .int .i64 (dsErr t u names)]) ∧ Up w w' := by
  have HE : Hid (dsErr t u names = if splOErr t names ≠ 0 then splOErr t names else splOErr u names) := rfl
  have HN : Hid (dsN t u names = if dsErr t u names = 0 then onlyN (splO t names) (splO u names) + onlyN (splO u names) (splO t names) else 0) := rfl
  have HOF1 : Hid (∀ W, Up w W → Calls Tryz.prog 27 #[v, vs] W (OfPost W t names)) := fun W hW => splOf_t S W v vs t names (hT.keep (hW.kept _)) (StrsAt.keep hV (hW.kept _)) hp hn hz hnl
  have HOF2 : Hid (∀ W, Up w W → Calls Tryz.prog 27 #[v2, vs] W (OfPost W u names)) := fun W hW => splOf_t S W v2 vs u names (hU.keep (hW.kept _)) (StrsAt.keep hV (hW.kept _)) hp2 hn2 hz2 hnl
  have HL1 : Hid ((splO t names).length ≤ 1000000 ∧ ∀ k, (gl (splO t names) k).length ≤ 1000000) := ⟨Nat.le_trans (splO_len t names) hp, fun k => Nat.le_trans (splO_row t names k) (by decide)⟩
  have HL2 : Hid ((splO u names).length ≤ 1000000 ∧ ∀ k, (gl (splO u names) k).length ≤ 1000000) := ⟨Nat.le_trans (splO_len u names) hp2, fun k => Nat.le_trans (splO_row u names k) (by decide)⟩
  have HB1 : Hid (onlyN (splO t names) (splO u names) ≤ 1000000) := Nat.le_trans (only_le _ _) HL1.out.1
  have HB2 : Hid (onlyN (splO u names) (splO t names) ≤ 1000000) := Nat.le_trans (only_le _ _) HL2.out.1
  obtain ⟨P, N, rfl, hP, hN⟩ := hT
  obtain ⟨P2, N2, rfl, hP2, hN2⟩ := hU
  obtain ⟨mp, mc, rfl, -, -⟩ := SlAt.open hV
  have hu1 := (Up.alloc w (.cells #[P, N] 45)).trans (Up.alloc _ (.cells #[P2, N2] 45))
  have hsz : (w.alloc (.cells #[P, N] 45)).heap.size = w.heap.size + 1 := by simp
  have a0 := (Up.alloc (w.alloc (.cells #[P, N] 45)) (.cells #[P2, N2] 45)).cell (box2_0 w P N 45)
  have a1 := (Up.alloc (w.alloc (.cells #[P, N] 45)) (.cells #[P2, N2] 45)).cell (box2_1 w P N 45)
  have c0 := box2_0 (w.alloc (.cells #[P, N] 45)) P2 N2 45
  have c1 := box2_1 (w.alloc (.cells #[P, N] 45)) P2 N2 45
  rw [hsz] at c0 c1
  have HU1 := Lib.hid hu1
  have HA := Lib.hid (⟨a0, a1, c0, c1⟩ : _ ∧ _ ∧ _ ∧ _)
  clear hP hN hP2 hN2 hV hu1 hsz a0 a1 c0 c1
  go_enter Tryz.func52, Tryz.ntmps52
  go_wp2_with fail
  generalize (w.alloc (.cells #[P, N] 45)).alloc (.cells #[P2, N2] 45) = w1 at *
  obtain ⟨a0, a1, c0, c1⟩ := HA.out
  refine (HOF1.out w1 HU1.out).mono ?_
  rintro e w2 ⟨hu2, r1, rfl, hr1⟩
  have c0 := hu2.cell c0
  have c1 := hu2.cell c1
  have HU2 := Lib.hid (HU1.out.trans hu2)
  have HR1 := Lib.hid hr1
  clear hu2 hr1 a0 a1 HOF1 HU1 HA
  by_cases e1 : splOErr t names = 0
  · have HE2 : Hid (dsErr t u names = splOErr u names) := by unfold Hid; rw [HE.out, if_neg (fun e => e e1)]
    rw [e1]
    clear e1 HE
    go_wp2_with fail
    refine (HOF2.out w2 HU2.out).mono ?_
    rintro e w3 ⟨hu3, r2, rfl, hr2⟩
    have HU3 := Lib.hid (HU2.out.trans hu3)
    have HR2 := Lib.hid hr2
    have HR1' := Lib.hid (RowsAt.keep HR1.out (hu3.kept _))
    clear hu3 hr2 c0 c1 HOF2 HU2 HR1
    by_cases e2 : splOErr u names = 0
    · have HX : Hid (dsErr t u names = 0 ∧ dsN t u names = onlyN (splO t names) (splO u names) + onlyN (splO u names) (splO t names)) := ⟨HE2.out.trans e2, by rw [HN.out, if_pos (HE2.out.trans e2)]⟩
      rw [e2]
      clear e2 HE2 HN
      have HC1 := Lib.hid (only_t Any Any w3 _ _ _ _ HR1'.out HR2.out HL1.out.1 HL2.out.1 HL1.out.2 HL2.out.2)
      go_wp2_with fail
      refine HC1.out.mono ?_
      rintro e w4 ⟨rfl, hu4⟩
      have HC2 := Lib.hid (only_t Any Any w4 _ _ _ _ (RowsAt.keep HR2.out (hu4.kept _)) (RowsAt.keep HR1'.out (hu4.kept _)) HL2.out.1 HL1.out.1 HL2.out.2 HL1.out.2)
      have HU4 := Lib.hid (HU3.out.trans hu4)
      have b1 := HB1.out
      have b2 := HB2.out
      clear hu4 HC1 HU3 HR2 HR1'
      go_wp2_with fail
      refine HC2.out.mono ?_
      rintro e w5 ⟨rfl, hu5⟩
      have HU5 := Lib.hid (HU4.out.trans hu5)
      clear hu5
      generalize onlyN (splO t names) (splO u names) = x at *
      generalize onlyN (splO u names) (splO t names) = y at *
      go_wp2_with fail
      exact ⟨rfl, .tuple #[.int .i64 ((x : Int) + (y : Int)), .int .i64 0], by simp [results, Tryz.results52, go_sem], by rw [HX.out.1, HX.out.2]; simp, HU5.out⟩
    · have HX : Hid (dsErr t u names = splOErr u names ∧ dsN t u names = 0) := ⟨HE2.out, by rw [HN.out, if_neg (by rw [HE2.out]; exact e2)]⟩
      have d1 : (splOErr u names != 0) = true := by simpa using e2
      clear e2 HE2 HN
      generalize splOErr u names = z at *
      go_wp2_with fail
      exact ⟨rfl, .tuple #[.int .i64 0, .int .i64 z], by simp [results, Tryz.results52, go_sem], by rw [HX.out.1, HX.out.2]; rfl, HU3.out⟩
  · have HX : Hid (dsErr t u names = splOErr t names ∧ dsN t u names = 0) := ⟨by rw [HE.out, if_pos e1], by rw [HN.out, if_neg (by rw [HE.out, if_pos e1]; exact e1)]⟩
    have d1 : (splOErr t names != 0) = true := by simpa using e1
    clear e1 HE HN
    generalize splOErr t names = z at *
    go_wp2_with fail
    exact ⟨rfl, .tuple #[.int .i64 0, .int .i64 z], by simp [results, Tryz.results52, go_sem], by rw [HX.out.1, HX.out.2]; rfl, HU2.out⟩
end Go.Proofs.YtcbmbhghmfehpaaGreat
namespace Go.Proofs.YtcbmbhghmfehpaaGreat
def tX : Tre := ⟨[-1, 0, 1, 1, 0, 4, 4], [⟨#[]⟩, ⟨#[]⟩, ⟨#[65]⟩, ⟨#[66]⟩, ⟨#[]⟩, ⟨#[67]⟩, ⟨#[68]⟩]⟩
def uX : Tre := ⟨[-1, 0, 0, 2, 2, 4, 4], [⟨#[]⟩, ⟨#[65]⟩, ⟨#[]⟩, ⟨#[66]⟩, ⟨#[]⟩, ⟨#[67]⟩, ⟨#[68]⟩]⟩
def fourX : List ByteArray := [⟨#[65]⟩, ⟨#[66]⟩, ⟨#[67]⟩, ⟨#[68]⟩]
def tXs : ByteArray := ⟨#[40, 40, 65, 44, 66, 41, 44, 40, 67, 44, 68, 41, 41, 59]⟩
def uXs : ByteArray := ⟨#[40, 65, 44, 40, 66, 44, 40, 67, 44, 68, 41, 41, 41, 59]⟩
theorem tX_par : paE tXs = 0 ∧ paT tXs = tX := by decide +kernel
theorem uX_par : paE uXs = 0 ∧ paT uXs = uX := by decide +kernel
theorem tX_of : splOErr tX fourX = 0 ∧ splO tX fourX = [[2, 3]] := by decide +kernel
theorem tX_ds : dsErr tX uX fourX = 0 ∧ dsN tX uX fourX = 0 := by decide +kernel
theorem X_bld : bldErr fourX [[2, 3]] = 0 ∧ bldR fourX [[2, 3]] = uX := by
  refine ⟨by decide +kernel, ?_⟩
  unfold bldR bldT
  rw [canT_eq2 (bT fourX (ownQ [[2, 3]]))]
  decide +kernel
theorem uX_tx : txE uX = 0 ∧ txT uX = [40, 65, 44, 40, 66, 44, 40, 67, 44, 68, 41, 41, 41, 59] := by decide +kernel
theorem X_cp : cpB 4 [1, 2] [2, 3] = false ∧ cpErr 4 [1, 2] [2, 3] = 0 := by decide +kernel
end Go.Proofs.YtcbmbhghmfehpaaGreat
