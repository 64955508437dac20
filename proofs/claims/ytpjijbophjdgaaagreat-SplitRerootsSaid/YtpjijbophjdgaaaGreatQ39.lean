/- The tree of splits: its nodes stand for nested sets; its splits; plain. The splits of the tree of splits are these splits, each once, in order: plain. Sets that are nested or apart, each of two elements or more: fewer than there are elements. So the tree of splits is small. -/
import Derived.Test.YtpjijbophjdgaaaGreatQ38
namespace Go.Proofs.YtpjijbophjdgaaaGreat
theorem allI_asc (n : Nat) : (allI n).Pairwise (· < ·) := by
  unfold allI
  rw [List.pairwise_map]
  exact List.pairwise_lt_range.imp fun h => by omega
theorem rest_cons {n : Nat} (hn : 0 < n) : (0 : Int) :: complL n [0] = allI n := by
  refine asc_ext (List.pairwise_cons.2 ⟨fun x hx => ?_, memK_asc _ _⟩) (allI_asc n) fun x => ?_
  · obtain ⟨h1, h2, h3⟩ := mem_complL.1 hx
    have : x ≠ 0 := fun e => h3 (by rw [e]; simp)
    omega
  · rw [List.mem_cons, mem_complL, mem_allI]
    constructor
    · rintro (rfl | ⟨h1, h2, h3⟩)
      · omega
      · exact ⟨h1, h2⟩
    · rintro ⟨h1, h2⟩
      by_cases e : x = 0
      · exact .inl e
      · exact .inr ⟨h1, h2, fun h => e (by simpa using h)⟩
theorem rest_len {n : Nat} (hn : 0 < n) : (complL n [0]).length + 1 = n := by
  have := congrArg List.length (rest_cons hn)
  rw [allI_len, List.length_cons] at this; exact this
theorem mem_rest {n : Nat} {x : Int} : x ∈ complL n [0] ↔ 1 ≤ x ∧ x < (n : Int) := by
  rw [mem_complL]
  constructor
  · rintro ⟨h1, h2, h3⟩
    have : x ≠ 0 := fun e => h3 (by rw [e]; simp)
    omega
  · rintro ⟨h1, h2⟩
    exact ⟨by omega, h2, fun h => by have : x = 0 := by simpa using h
                                     omega⟩
section
variable {names : List ByteArray} {l : List (List Int)}
theorem BldOk.own (h : BldOk names l) {k : Nat} (hk : k < (ownQ l).length) : SplOk names.length (gl (ownQ l) k) := h.spl _ (mem_ownO.1 (gl_in hk))
theorem BldOk.lam (h : BldOk names l) {a b : List Int} (ha : a ∈ l) (hb : b ∈ l) : (∀ x ∈ a, x ∉ b) ∨ (∀ x ∈ a, x ∈ b) ∨ ∀ x ∈ b, x ∈ a := by
  obtain ⟨i, hi, rfl⟩ := in_gl ha
  obtain ⟨k, hk, rfl⟩ := in_gl hb
  rcases Nat.lt_trichotomy i k with c | c | c
  · exact (compB_iff (h.spl _ ha).set (h.spl _ hb).set).1 (h.cmp i k c hk)
  · subst c; exact .inr (.inl fun x hx => hx)
  · rcases (compB_iff (h.spl _ hb).set (h.spl _ ha).set).1 (h.cmp k i c hi) with e | e | e
    · exact .inl fun x h1 h2 => e x h2 h1
    · exact .inr (.inr e)
    · exact .inr (.inl e)
theorem own_ord {i k : Nat} (hik : i < k) (hk : k < (ownQ l).length) : (gl (ownQ l) k).length ≤ (gl (ownQ l) i).length ∧ gl (ownQ l) i ≠ gl (ownQ l) k := by
  have h := List.pairwise_iff_getElem.1 (ownQ_strict l) i k (by omega) hk hik
  have e1 : gl (ownQ l) i = (ownQ l)[i] := by simp [gl, show i < (ownQ l).length by omega]
  have e2 : gl (ownQ l) k = (ownQ l)[k] := by simp [gl, hk]
  rw [← e1, ← e2] at h
  constructor
  · unfold cmpQ at h
    split at h
    · omega
    · split at h
      · omega
      · omega
  · intro e; rw [e, cmpQ_self] at h; omega
theorem BldOk.up (h : BldOk names l) {i k : Nat} (hi : i < (ownQ l).length) (hk : k < (ownQ l).length) (hne : i ≠ k) (hs : ∀ x ∈ gl (ownQ l) k, x ∈ gl (ownQ l) i) : i < k := by
  rcases Nat.lt_trichotomy i k with c | c | c
  · exact c
  · exact absurd c hne
  · obtain ⟨h1, h2⟩ := own_ord c hi
    have a1 := (h.own hi).set.asc
    have a2 := (h.own hk).set.asc
    have h3 := asc_sub_len a2 a1 hs
    exact absurd (asc_ext a2 a1 fun x => ⟨hs x, asc_sub_eq a2 a1 hs (by omega) x⟩) h2
theorem BldOk.down (h : BldOk names l) {i k : Nat} (hi : i < k) (hk : k < (ownQ l).length) {x : Int} (h1 : x ∈ gl (ownQ l) i) (h2 : x ∈ gl (ownQ l) k) : ∀ y ∈ gl (ownQ l) k, y ∈ gl (ownQ l) i := by
  rcases h.lam (mem_ownO.1 (gl_in (show i < (ownQ l).length by omega))) (mem_ownO.1 (gl_in hk)) with e | e | e
  · exact absurd h2 (e x h1)
  · have := h.up (i := k) (k := i) hk (by omega) (by omega) e
    omega
  · exact e
theorem bS_own {own : List (List Int)} {k : Nat} (hk : k < own.length) : bS names own (3 + k) = gl own k := by
  unfold bS
  rw [if_neg (by omega), if_neg (by omega), if_neg (by omega), if_pos (by omega), show 3 + k - 3 = k by omega]
theorem bS_leaf {own : List (List Int)} {b : Nat} (hb : 1 ≤ b) : bS names own (2 + own.length + b) = [(b : Int)] := by
  unfold bS
  rw [if_neg (by omega), if_neg (by omega), if_neg (by omega), if_neg (by omega), show 2 + own.length + b - 2 - own.length = b by omega]
theorem bS_cases {own : List (List Int)} {n i : Nat} (hi : i < 3 + own.length + (n - 1)) : i = 0 ∨ i = 1 ∨ i = 2 ∨ (∃ k, k < own.length ∧ i = 3 + k) ∨ ∃ b, 1 ≤ b ∧ b < n ∧ i = 2 + own.length + b := by
  by_cases h0 : i = 0
  · exact .inl h0
  by_cases h1 : i = 1
  · exact .inr (.inl h1)
  by_cases h2 : i = 2
  · exact .inr (.inr (.inl h2))
  by_cases h3 : i < 3 + own.length
  · exact .inr (.inr (.inr (.inl ⟨i - 3, by omega, by omega⟩)))
  · exact .inr (.inr (.inr (.inr ⟨i - 2 - own.length, by omega, by omega, by omega⟩)))
theorem BldOk.kind (h : BldOk names l) (h3 : 3 ≤ names.length) {i : Nat} (hi : i < 3 + (ownQ l).length + (names.length - 1)) :
    ((bS names (ownQ l) i).Pairwise (· < ·) ∧ (∀ x ∈ bS names (ownQ l) i, 0 ≤ x ∧ x < (names.length : Int))) ∧
    ((i = 0 ∧ (bS names (ownQ l) i).length = names.length) ∨ (i = 1 ∧ (bS names (ownQ l) i).length = 1 ∧ bS names (ownQ l) i = [0]) ∨ (i = 2 ∧ (bS names (ownQ l) i).length + 1 = names.length) ∨
      (∃ k, k < (ownQ l).length ∧ i = 3 + k ∧ bS names (ownQ l) i = gl (ownQ l) k ∧ 2 ≤ (bS names (ownQ l) i).length ∧ (bS names (ownQ l) i).length + 2 ≤ names.length) ∨
      ∃ b : Nat, 1 ≤ b ∧ b < names.length ∧ i = 2 + (ownQ l).length + b ∧ bS names (ownQ l) i = [(b : Int)] ∧ (bS names (ownQ l) i).length = 1) := by
  rcases bS_cases hi with rfl | rfl | rfl | ⟨k, hk, rfl⟩ | ⟨b, hb, hbn, rfl⟩
  · exact ⟨⟨allI_asc _, fun x hx => mem_allI.1 hx⟩, .inl ⟨rfl, allI_len _⟩⟩
  · exact ⟨⟨by simp [bS], fun x hx => by have : x = 0 := by simpa [bS] using hx
                                         omega⟩, .inr (.inl ⟨rfl, rfl, rfl⟩)⟩
  · exact ⟨⟨memK_asc _ _, fun x hx => by have := mem_rest.1 hx; omega⟩, .inr (.inr (.inl ⟨rfl, rest_len (by omega)⟩))⟩
  · have ho := h.own hk
    have hl := ho.len
    refine ⟨?_, .inr (.inr (.inr (.inl ⟨k, hk, rfl, bS_own hk, ?_, ?_⟩)))⟩
    · rw [bS_own hk]
      exact ⟨ho.set.asc, fun x hx => by have := ho.bd x hx; omega⟩
    · rw [bS_own hk]; omega
    · rw [bS_own hk]; omega
  · refine ⟨?_, .inr (.inr (.inr (.inr ⟨b, hb, hbn, rfl, bS_leaf hb, by rw [bS_leaf hb]; rfl⟩)))⟩
    rw [bS_leaf hb]
    exact ⟨by simp, fun x hx => by have : x = (b : Int) := by simpa using hx
                                   omega⟩
theorem own_x {s : List Int} {n : Int} (h : SplOk n s) : gi s 0 ∈ s := gi_in (by have := h.len; omega)
theorem bld_sets (h : BldOk names l) (h3 : 3 ≤ names.length) (hsm : 3 + (ownQ l).length + (names.length - 1) ≤ 64) : NodeSets names (bT names (ownQ l)) (bS names (ownQ l)) := by
  have hlen : (bT names (ownQ l)).ps.length = 3 + (ownQ l).length + (names.length - 1) := bT_len
  have hrest : bS names (ownQ l) 2 = complL names.length [0] := rfl
  have hall : bS names (ownQ l) 0 = allI names.length := rfl
  have hone : bS names (ownQ l) 1 = [0] := rfl
  have sub0 : ∀ i, i < 3 + (ownQ l).length + (names.length - 1) → ∀ x ∈ bS names (ownQ l) i, x ∈ bS names (ownQ l) 0 := fun i hi x hx => by
    rw [hall]; exact mem_allI.2 ((h.kind h3 hi).1.2 x hx)
  have ownRest : ∀ k, k < (ownQ l).length → ∀ x ∈ gl (ownQ l) k, x ∈ bS names (ownQ l) 2 := fun k hk x hx => by
    rw [hrest]; exact mem_rest.2 ((h.own hk).bd x hx)
  -- the least set above a number and what holds it
  have least : ∀ (x : Int) (k : Nat), k ≤ (ownQ l).length → 1 ≤ x → x < names.length → ∃ p, p < 3 + k ∧ lastQ (ownQ l) x k = (p : Int) ∧ 2 ≤ p ∧ x ∈ bS names (ownQ l) p ∧ (p < 3 + (ownQ l).length) ∧
      (∀ q, q < k → x ∈ gl (ownQ l) q → ∀ y ∈ bS names (ownQ l) p, y ∈ gl (ownQ l) q) ∧ (∀ y ∈ bS names (ownQ l) p, y ∈ bS names (ownQ l) 2) := fun x k hk x1 xn => by
    rcases lastQ_spec (ownQ l) x k with ⟨h1, h2⟩ | ⟨p, p1, p2, p3, p4⟩
    · exact ⟨2, by omega, h1, by omega, by rw [hrest]; exact mem_rest.2 ⟨x1, xn⟩, by omega, fun q hq hx => absurd hx (h2 q hq), fun y hy => hy⟩
    · refine ⟨3 + p, by omega, p2, by omega, by rw [bS_own (by omega)]; exact p3, by omega, fun q hq hx => ?_, ?_⟩
      · rw [bS_own (by omega)]
        rcases Nat.lt_trichotomy q p with c | c | c
        · exact h.down c (by omega) hx p3
        · subst c; exact fun y hy => hy
        · exact absurd hx (p4 q c hq)
      · rw [bS_own (show p < (ownQ l).length by omega)]
        exact ownRest p (by omega)
  refine ⟨h.nm, h.nd, by rw [hlen]; omega, by rw [hlen]; exact hsm, by rw [bT_nlen, hlen], by rw [bT_ps, if_pos rfl], fun b hb => by rw [hall]; exact mem_allI.2 ⟨by omega, by omega⟩, fun i hi => ?_, fun i h0 hi => ?_, fun i j hi hj h1 h2 => ?_, fun b hb => ?_, fun i hi => ?_, fun i hi => ?_⟩
  · rw [hlen] at hi
    obtain ⟨⟨k1, k2⟩, k3⟩ := h.kind h3 hi
    refine ⟨k2, fun e => ?_⟩
    rw [e] at k3
    simp only [List.length_nil] at k3
    rcases k3 with k3 | k3 | k3 | ⟨k, _, _, _, k4, _⟩ | ⟨b, _, _, _, _, k4⟩
    · omega
    · omega
    · omega
    · omega
    · omega
  · rw [hlen] at hi
    rw [bT_ps, if_neg (by omega)]
    rcases bS_cases hi with rfl | rfl | rfl | ⟨k, hk, rfl⟩ | ⟨b, hb, hbn, rfl⟩
    · omega
    · refine ⟨0, by omega, rfl, sub0 1 (by omega), fun j hj hj1 hs => ?_⟩
      rw [hlen] at hj
      rw [hone] at hs
      have hs := hs 0 (by simp)
      rcases bS_cases hj with rfl | rfl | rfl | ⟨k, hk, rfl⟩ | ⟨b, hb, hbn, rfl⟩
      · exact fun x hx => hx
      · exact absurd rfl hj1
      · rw [hrest] at hs; have := mem_rest.1 hs; omega
      · rw [bS_own hk] at hs; have := (h.own hk).bd 0 hs; omega
      · rw [bS_leaf hb] at hs; have : (0 : Int) = b := by simpa using hs
        omega
    · refine ⟨0, by omega, rfl, sub0 2 (by omega), fun j hj hj1 hs => ?_⟩
      rw [hlen] at hj
      obtain ⟨⟨k1, k2⟩, k3⟩ := h.kind h3 hj
      have hl2 := asc_sub_len (memK_asc _ _) k1 (by rw [hrest] at hs; exact hs)
      have hl3 := rest_len (n := names.length) (by omega)
      have hl2 : (complL names.length [0]).length ≤ (bS names (ownQ l) j).length := hl2
      rcases k3 with ⟨rfl, _⟩ | ⟨_, k3, _⟩ | ⟨rfl, _⟩ | ⟨k, _, _, _, _, k4⟩ | ⟨b, _, _, _, _, k4⟩
      · exact fun x hx => hx
      · omega
      · exact absurd rfl hj1
      · omega
      · omega
    · rw [if_neg (by omega), if_pos (by omega), show 3 + k - 3 = k by omega]
      have ho := h.own hk
      have hx := own_x ho
      have hxb := ho.bd _ hx
      obtain ⟨p, p1, p2, p2', p3, p4, p5, p6⟩ := least (gi (gl (ownQ l) k) 0) k (by omega) hxb.1 hxb.2
      have hsub : ∀ y ∈ gl (ownQ l) k, y ∈ bS names (ownQ l) p := by
        rcases bS_cases (n := names.length) (show p < 3 + (ownQ l).length + (names.length - 1) by omega) with rfl | rfl | rfl | ⟨q, hq, rfl⟩ | ⟨b, hb, hbn, rfl⟩
        · omega
        · omega
        · exact ownRest k hk
        · rw [bS_own hq] at p3 ⊢
          exact h.down (by omega) hk p3 hx
        · omega
      refine ⟨p, by omega, p2, by rw [bS_own hk]; exact hsub, fun j hj hj1 hs => ?_⟩
      rw [hlen] at hj
      rw [bS_own hk] at hs
      have hsx := hs _ hx
      rcases bS_cases hj with rfl | rfl | rfl | ⟨q, hq, rfl⟩ | ⟨b, hb, hbn, rfl⟩
      · exact sub0 p (by omega)
      · rw [hone] at hsx; have : gi (gl (ownQ l) k) 0 = 0 := by simpa using hsx
        omega
      · exact p6
      · rw [bS_own hq] at hs hsx ⊢
        have hqk := h.up hq hk (fun e => hj1 (by rw [e])) hs
        exact p5 q hqk hsx
      · exfalso
        rw [bS_leaf hb] at hs
        have q1 := asc_sub_len ho.set.asc (by simp) hs
        have q2 := ho.len
        rw [List.length_singleton] at q1
        omega
    · rw [if_neg (by omega), if_neg (by omega), if_pos (by omega), show 2 + (ownQ l).length + b - 2 - (ownQ l).length = b by omega]
      obtain ⟨p, p1, p2, p2', p3, p4, p5, p6⟩ := least (b : Int) (ownQ l).length (Nat.le_refl _) (by omega) (by omega)
      refine ⟨p, by omega, p2, by rw [bS_leaf hb]; intro x hx; have : x = (b : Int) := by simpa using hx
                                  rw [this]; exact p3, fun j hj hj1 hs => ?_⟩
      rw [hlen] at hj
      rw [bS_leaf hb] at hs
      have hsx := hs (b : Int) (by simp)
      rcases bS_cases hj with rfl | rfl | rfl | ⟨q, hq, rfl⟩ | ⟨b', hb', hbn', rfl⟩
      · exact sub0 p (by omega)
      · rw [hone] at hsx; have : (b : Int) = 0 := by simpa using hsx
        omega
      · exact p6
      · rw [bS_own hq] at hsx ⊢
        exact p5 q hq hsx
      · rw [bS_leaf hb'] at hsx; have : (b : Int) = b' := by simpa using hsx
        exact absurd (by rw [show b' = b by omega]) hj1
  · rw [hlen] at hi hj
    obtain ⟨⟨a1, a2⟩, a3⟩ := h.kind h3 hi
    obtain ⟨⟨c1, c2⟩, c3⟩ := h.kind h3 hj
    have e := asc_ext a1 c1 fun x => ⟨h1 x, h2 x⟩
    have el := congrArg List.length e
    rcases a3 with ⟨rfl, a4⟩ | ⟨rfl, a4, a5⟩ | ⟨rfl, a4⟩ | ⟨k, hk, rfl, a6, a4, a5⟩ | ⟨b, b1, b2, rfl, a5, a4⟩ <;>
    rcases c3 with ⟨rfl, c4⟩ | ⟨rfl, c4, c5⟩ | ⟨rfl, c4⟩ | ⟨k', hk', rfl, c6, c4, c5⟩ | ⟨b', d1, d2, rfl, c5, c4⟩ <;>
    first | omega | skip
    · rw [a5, c5] at e; injection e with e; omega
    · rw [a6, c6] at e
      rcases Nat.lt_trichotomy k k' with c | c | c
      · exact absurd e (own_ord c hk').2
      · rw [c]
      · exact absurd e.symm (own_ord c hk).2
    · rw [a5, c5] at e; injection e with e; omega
    · rw [a5, c5] at e; injection e with e; omega
  · by_cases h0 : b = 0
    · subst h0; exact ⟨1, by rw [hlen]; omega, rfl⟩
    · exact ⟨2 + (ownQ l).length + b, by rw [hlen]; omega, bS_leaf (by omega)⟩
  · rw [hlen] at hi
    unfold bT
    rcases bS_cases hi with rfl | rfl | rfl | ⟨k, hk, rfl⟩ | ⟨b, hb, hbn, rfl⟩
    · rw [hall, nmI, if_neg (by rw [allI_len]; omega)]; rfl
    · rfl
    · rw [hrest, nmI, if_neg (by have := rest_len (n := names.length) (by omega); omega)]; rfl
    · have := (h.own hk).len
      rw [bS_own hk, nmI, if_neg (by omega), show 3 + k = k + 1 + 1 + 1 by omega]
      show gs (List.replicate (ownQ l).length ByteArray.empty ++ (List.range (names.length - 1)).map fun b => gs names (b + 1)) k = _
      simp [gs, List.getElem?_append, hk]
    · obtain ⟨c, rfl⟩ : ∃ c, b = c + 1 := ⟨b - 1, by omega⟩
      rw [bS_leaf hb]
      have e1 : nmI names [((c + 1 : Nat) : Int)] = gs names (c + 1) := by
        unfold nmI
        rw [if_pos (show [((c + 1 : Nat) : Int)].length = 1 from rfl)]
        show gs names ((c + 1 : Nat) : Int).toNat = _
        rw [Int.toNat_natCast]
      rw [e1, show 2 + (ownQ l).length + (c + 1) = (ownQ l).length + c + 1 + 1 + 1 by omega]
      show gs (List.replicate (ownQ l).length ByteArray.empty ++ (List.range (names.length - 1)).map fun b => gs names (b + 1)) ((ownQ l).length + c) = _
      simp [gs, show c < names.length - 1 by omega]
  · rw [hlen] at hi
    exact set_nodup (h.kind h3 hi).1.1
end
end Go.Proofs.YtpjijbophjdgaaaGreat
namespace Go.Proofs.YtpjijbophjdgaaaGreat
section
variable {names : List ByteArray} {t : Tre} {S : Nat → List Int} {l : List (List Int)}
theorem nodup_nd (h : ∀ j k, j < k → k < names.length → gs names k ≠ gs names j) : names.Nodup :=
  List.pairwise_iff_getElem.2 fun i j hi hj hij e => h i j hij hj (by simp [gs, hi, hj, e])
theorem NodeSets.nmperm (h : NodeSets names t S) : (leafR (toR t)).Perm names := by
  refine (List.perm_ext_iff_of_nodup h.oku.nd (nodup_nd h.nd)).2 fun y => ?_
  have h1 := h.leaves _ 0 (Nat.le_refl _) h.n0 y
  constructor
  · intro hy
    obtain ⟨b, hb, rfl⟩ := h1.1 hy
    have hb := (h.bd 0 h.n0).1 _ hb
    have hb : b < names.length := by omega
    simp [gs, hb]
  · intro hy
    obtain ⟨b, hb, e⟩ := List.mem_iff_getElem.1 hy
    exact h1.2 ⟨b, h.top b hb, by simp [gs, hb, e]⟩
theorem ofok_of (ht : treeErr t = 0) (hp : (fltN t.ns).Perm names) (hle : names.length ≤ 32) (hnd : ∀ j k, j < k → k < names.length → gs names k ≠ gs names j) : OfOk t names := by
  obtain ⟨_, _, hl, _, _⟩ := treeErr_zero ht
  refine ⟨ht, hle, hnd, by rw [lvs_count, hp.length_eq], fun j hj h0 => ?_⟩
  obtain ⟨b, hb, e⟩ := List.mem_iff_getElem.1 (hp.mem_iff.1 (mem_flt.2 ⟨j, by omega, rfl, h0⟩))
  exact ⟨b, hb, by rw [← e]; simp [gs, hb]⟩
theorem NodeSets.ofok (h : NodeSets names t S) (hle : names.length ≤ 32) : OfOk (canT t) names :=
  ofok_of (canT_ok h.tree) ((can_names h.tree).trans ((leafs_perm h.tree).symm.trans h.nmperm)) hle h.nd
theorem NodeSets.ofok0 (h : NodeSets names t S) (hle : names.length ≤ 32) : OfOk t names :=
  ofok_of h.tree ((leafs_perm h.tree).symm.trans h.nmperm) hle h.nd
theorem NodeSets.splits (h : NodeSets names t S) (hle : names.length ≤ 32) (ha : ∀ i, i < t.ps.length → (S i).Pairwise (· < ·)) {s : List Int} :
    s ∈ splO (canT t) names ↔ SplOk names.length s ∧ ∃ i, i < t.ps.length ∧ s = splS names.length (S i) := by
  rw [mem_splO (h.ofok hle), toR_canT h.tree]
  constructor
  · rintro ⟨h1, q, hq, X, hX, bX, hL, rfl⟩
    obtain ⟨u, hu, rfl⟩ := List.mem_map.1 ((subR_sort _).mem_iff.1 hq)
    obtain ⟨i, hi, hi2⟩ := h.parts.1 u hu
    have := lv_inj h.nd hX (ha i hi) bX (h.bd i hi).1 hL (lv_sort hi2)
    exact ⟨h1, i, hi, by rw [this]⟩
  · rintro ⟨h1, i, hi, rfl⟩
    obtain ⟨u, hu, hu2⟩ := h.parts.2 i hi
    exact ⟨h1, sortR u, (subR_sort _).mem_iff.2 (List.mem_map.2 ⟨u, hu, rfl⟩), S i, ha i hi, (h.bd i hi).1, lv_sort hu2, rfl⟩
theorem splO_strict (t : Tre) (names : List ByteArray) : (splO t names).Pairwise ltX := by
  unfold splO; split
  · exact ordX_strict _
  · exact List.Pairwise.nil
theorem splO_few (hn : names.length < 4) : splO t names = [] := by
  by_cases h : splOErr t names = 0
  · rw [List.eq_nil_iff_forall_not_mem]
    intro s hs
    have := ((mem_splO (splO_ok.1 h)).1 hs).1.len
    omega
  · unfold splO; rw [if_neg h]
theorem BldOk.few (h : BldOk names l) (hn : names.length < 4) : l = [] := by
  rw [List.eq_nil_iff_forall_not_mem]
  intro s hs
  have := (h.spl s hs).len
  omega
theorem one_sets (h : BldOk names l) (h1 : names.length = 1) : NodeSets names ⟨[-1], [gs names 0]⟩ (fun _ => [0]) := by
  refine ⟨h.nm, h.nd, by simp, by simp, rfl, rfl, fun b hb => ?_, fun i hi => ?_, fun i h0 hi => ?_, fun i j hi hj _ _ => ?_, fun b hb => ?_, fun i hi => ?_, fun i hi => by simp⟩
  · have : b = 0 := by omega
    subst this; simp
  · exact ⟨fun x hx => by have : x = 0 := by simpa using hx
                          omega, by simp⟩
  · exact absurd hi (by simp; omega)
  · simp at hi hj; omega
  · have : b = 0 := by omega
    subst this; exact ⟨0, by simp, rfl⟩
  · have : i = 0 := by simp at hi; omega
    subst this; rfl
def twoS (i : Nat) : List Int := if i = 0 then [0, 1] else if i = 1 then [0] else [1]
theorem two_sets (h : BldOk names l) (h2 : names.length = 2) : NodeSets names ⟨[-1, 0, 0], [ByteArray.empty, gs names 0, gs names 1]⟩ twoS := by
  have c3 : ∀ i, i < ([-1, 0, 0] : List Int).length → i = 0 ∨ i = 1 ∨ i = 2 := fun i hi => by simp at hi; omega
  refine ⟨h.nm, h.nd, by simp, by simp, rfl, rfl, fun b hb => ?_, fun i hi => ?_, fun i h0 hi => ?_, fun i j hi hj hij hji => ?_, fun b hb => ?_, fun i hi => ?_, fun i hi => ?_⟩
  · have : b = 0 ∨ b = 1 := by omega
    rcases this with rfl | rfl <;> simp [twoS]
  · rcases c3 i hi with rfl | rfl | rfl
    · exact ⟨fun x hx => by have : x = 0 ∨ x = 1 := by simpa [twoS] using hx
                            omega, by simp [twoS]⟩
    · exact ⟨fun x hx => by have : x = 0 := by simpa [twoS] using hx
                            omega, by simp [twoS]⟩
    · exact ⟨fun x hx => by have : x = 1 := by simpa [twoS] using hx
                            omega, by simp [twoS]⟩
  · have : i = 1 ∨ i = 2 := by have := c3 i hi; omega
    refine ⟨0, by omega, by rcases this with rfl | rfl <;> rfl, fun x hx => ?_, fun j hj hji hs => ?_⟩
    · rcases this with rfl | rfl
      · have : x = 0 := by simpa [twoS] using hx
        subst this; simp [twoS]
      · have : x = 1 := by simpa [twoS] using hx
        subst this; simp [twoS]
    · rcases c3 j hj with rfl | rfl | rfl
      · exact fun x hx => hx
      · have : i = 2 := by omega
        subst this
        have := hs 1 (by simp [twoS])
        simp [twoS] at this
      · have : i = 1 := by omega
        subst this
        have := hs 0 (by simp [twoS])
        simp [twoS] at this
  · rcases c3 i hi with rfl | rfl | rfl <;> rcases c3 j hj with rfl | rfl | rfl <;> first | rfl | (simp [twoS] at hij hji)
  · have : b = 0 ∨ b = 1 := by omega
    rcases this with rfl | rfl
    · exact ⟨1, by simp, rfl⟩
    · exact ⟨2, by simp, rfl⟩
  · rcases c3 i hi with rfl | rfl | rfl <;> rfl
  · rcases c3 i hi with rfl | rfl | rfl <;> simp [twoS]
theorem bld_splits (h : BldOk names l) (h3 : 3 ≤ names.length) (hsm : 3 + (ownQ l).length + (names.length - 1) ≤ 64) : splO (canT (bT names (ownQ l))) names = ordX l := by
  have hS := bld_sets h h3 hsm
  have hlen : (bT names (ownQ l)).ps.length = 3 + (ownQ l).length + (names.length - 1) := bT_len
  refine ltX_ext (splO_strict _ _) (ordX_strict l) fun s => ?_
  rw [hS.splits h.le (fun i hi => (h.kind h3 (by omega)).1.1), mem_ordX]
  constructor
  · rintro ⟨h1, i, hi, rfl⟩
    have h2 := h1.len
    obtain ⟨⟨k1, k2⟩, k3⟩ := h.kind h3 (i := i) (by omega)
    rcases k3 with ⟨rfl, k4⟩ | ⟨rfl, k4, k5⟩ | ⟨rfl, k4⟩ | ⟨k, hk, rfl, k6, k4, k5⟩ | ⟨b, b1, b2, rfl, k5, k4⟩
    · exfalso
      have h4 : splS names.length (bS names (ownQ l) 0) = [] := by
        rw [show bS names (ownQ l) 0 = allI names.length from rfl]
        unfold splS
        rw [if_pos (List.contains_iff_mem.2 (mem_allI.2 (by omega))), List.eq_nil_iff_forall_not_mem]
        intro x hx
        obtain ⟨x0, xn, hx⟩ := mem_complL.1 hx
        exact hx (mem_allI.2 ⟨x0, xn⟩)
      rw [h4] at h2; simp at h2
    · exfalso
      rw [k5] at h2
      have h4 : splS names.length [0] = complL names.length [0] := rfl
      rw [h4] at h2
      have := rest_len (n := names.length) (by omega)
      omega
    · exfalso
      have h4 : splS names.length (bS names (ownQ l) 2) = bS names (ownQ l) 2 := by
        unfold splS
        rw [if_neg]
        intro e
        have := mem_rest.1 (List.contains_iff_mem.1 e)
        omega
      rw [h4] at h2
      omega
    · have ho := h.own hk
      have h4 : splS names.length (bS names (ownQ l) (3 + k)) = gl (ownQ l) k := by
        rw [k6]
        unfold splS
        rw [if_neg]
        intro e
        have := ho.bd _ (List.contains_iff_mem.1 e)
        omega
      rw [h4]
      exact mem_ownO.1 (gl_in hk)
    · exfalso
      have h4 : splS names.length (bS names (ownQ l) (2 + (ownQ l).length + b)) = [(b : Int)] := by
        rw [k5]
        unfold splS
        rw [if_neg]
        intro e
        have : (0 : Int) = b := by simpa using List.contains_iff_mem.1 e
        omega
      rw [h4] at h2; simp at h2
  · intro hs
    refine ⟨h.spl s hs, ?_⟩
    obtain ⟨k, hk, rfl⟩ := in_gl (mem_ownO.2 hs)
    refine ⟨3 + k, by omega, ?_⟩
    rw [bS_own hk]
    unfold splS
    rw [if_neg]
    intro e
    have := (h.own hk).bd _ (List.contains_iff_mem.1 e)
    omega
theorem bld_back (h : BldOk names l) (hsm : 3 + (ownQ l).length + (names.length - 1) ≤ 64) : OfOk (bldT names l) names ∧ splO (bldT names l) names = ordX l := by
  unfold bldT
  have hp := h.pos
  by_cases h1 : names.length = 1
  · rw [if_pos h1]
    refine ⟨(one_sets h h1).ofok0 h.le, ?_⟩
    rw [splO_few (by omega), h.few (by omega)]; rfl
  rw [if_neg h1]
  by_cases h2 : names.length = 2
  · rw [if_pos h2]
    refine ⟨(two_sets h h2).ofok h.le, ?_⟩
    rw [splO_few (by omega), h.few (by omega)]; rfl
  rw [if_neg h2]
  exact ⟨(bld_sets h (by omega) hsm).ofok h.le, bld_splits h (by omega) hsm⟩
end
end Go.Proofs.YtpjijbophjdgaaaGreat
namespace Go.Proofs.YtpjijbophjdgaaaGreat
theorem two_le {L : List Int} {y z : Int} (h1 : y ∈ L) (h2 : z ∈ L) (hne : y ≠ z) : 2 ≤ L.length := by
  match L, h1, h2 with
  | [a], h1, h2 => exact absurd ((List.mem_singleton.1 h1).trans (List.mem_singleton.1 h2).symm) hne
  | _ :: _ :: _, _, _ => simp
def LamR (a b : List Int) : Prop := ((∀ x ∈ a, x ∉ b) ∨ ∀ x ∈ a, x ∈ b) ∧ ¬ ∀ x, x ∈ a ↔ x ∈ b
theorem lam_len : ∀ (F : List (List Int)) (U : List Int), U ≠ [] → U.Nodup → (∀ s ∈ F, s.Nodup ∧ 2 ≤ s.length ∧ ∀ x ∈ s, x ∈ U) → F.Pairwise LamR → F.length + 1 ≤ U.length
  | [], U, hU, _, _, _ => by
    have := List.length_pos_iff.2 hU
    show 0 + 1 ≤ U.length
    omega
  | S :: F, U, hU, hN, hF, hP => by
    obtain ⟨hSn, hS2, hSU⟩ := hF S (by simp)
    obtain ⟨x, y, r, rfl⟩ : ∃ x y r, S = x :: y :: r := by
      match S, hS2 with
      | a :: b :: r, _ => exact ⟨a, b, r, rfl⟩
    have hxy : x ≠ y := fun e => (List.nodup_cons.1 hSn).1 (by rw [e]; simp)
    have hxU := hSU x (by simp)
    have hyU := hSU y (by simp)
    rw [List.pairwise_cons] at hP
    obtain ⟨hP1, hP2⟩ := hP
    have hlen := List.length_erase_of_mem hxU
    have hpos := List.length_pos_of_mem hxU
    have hin : ∀ T ∈ F, (x ∈ T ↔ y ∈ T) := fun T hT => by
      rcases (hP1 T hT).1 with h | h
      · exact ⟨fun e => absurd e (h x (by simp)), fun e => absurd e (h y (by simp))⟩
      · exact ⟨fun _ => h y (by simp), fun _ => h x (by simp)⟩
    have ih := lam_len (F.map (·.erase x)) (U.erase x) (fun e => by
        have : y ∈ U.erase x := (List.Nodup.mem_erase_iff hN).2 ⟨fun e => hxy e.symm, hyU⟩
        rw [e] at this; cases this) (hN.erase x) (fun s hs => by
        obtain ⟨T, hT, rfl⟩ := List.mem_map.1 hs
        obtain ⟨hTn, hT2, hTU⟩ := hF T (List.mem_cons_of_mem _ hT)
        refine ⟨hTn.erase x, ?_, fun z hz => ?_⟩
        · rcases (hP1 T hT).1 with h | h
          · rw [List.erase_of_not_mem (h x (by simp))]; exact hT2
          · obtain ⟨z, hz1, hz2⟩ : ∃ z, z ∈ T ∧ z ∉ x :: y :: r := by
              refine Classical.byContradiction fun hno => (hP1 T hT).2 fun z => ⟨h z, fun hz => ?_⟩
              exact Classical.byContradiction fun hz2 => hno ⟨z, hz, hz2⟩
            refine two_le (y := y) (z := z) ((List.Nodup.mem_erase_iff hTn).2 ⟨fun e => hxy e.symm, h y (by simp)⟩) ((List.Nodup.mem_erase_iff hTn).2 ⟨fun e => hz2 (by rw [e]; simp), hz1⟩) (fun e => hz2 (by rw [← e]; simp))
        · obtain ⟨h1, h2⟩ := (List.Nodup.mem_erase_iff hTn).1 hz
          exact (List.Nodup.mem_erase_iff hN).2 ⟨h1, hTU z h2⟩) (by
        rw [List.pairwise_map]
        refine hP2.imp_of_mem fun {a b} ha hb hab => ?_
        have han := (hF a (List.mem_cons_of_mem _ ha)).1
        have hbn := (hF b (List.mem_cons_of_mem _ hb)).1
        have ma : ∀ z, z ∈ a.erase x ↔ z ≠ x ∧ z ∈ a := fun z => List.Nodup.mem_erase_iff han
        have mb : ∀ z, z ∈ b.erase x ↔ z ≠ x ∧ z ∈ b := fun z => List.Nodup.mem_erase_iff hbn
        refine ⟨?_, fun hall => hab.2 fun z => ?_⟩
        · rcases hab.1 with h | h
          · exact .inl fun z hz hz2 => h z ((ma z).1 hz).2 ((mb z).1 hz2).2
          · exact .inr fun z hz => (mb z).2 ⟨((ma z).1 hz).1, h z ((ma z).1 hz).2⟩
        · have hall2 : ∀ z, z ≠ x → (z ∈ a ↔ z ∈ b) := fun z hz => by
            have h := hall z
            rw [ma, mb] at h
            exact ⟨fun e => (h.1 ⟨hz, e⟩).2, fun e => (h.2 ⟨hz, e⟩).2⟩
          by_cases e : z = x
          · rw [e, hin a ha, hin b hb]; exact hall2 y fun e => hxy e.symm
          · exact hall2 z e)
    rw [List.length_map] at ih
    simp only [List.length_cons]
    omega
termination_by F => F.length
decreasing_by simp
theorem own_small {names : List ByteArray} {l : List (List Int)} (h : BldOk names l) (h3 : 3 ≤ names.length) : 3 + (ownQ l).length + (names.length - 1) ≤ 64 := by
  have hr := rest_len (n := names.length) (by omega)
  have hle := h.le
  have hnd : (complL names.length [0]).Nodup := ((allI_asc _).filter _).imp fun h e => by omega
  have key := lam_len (ownQ l).reverse (complL names.length [0]) (fun e => by rw [e] at hr; simp at hr; omega) hnd (fun s hs => by
    have hs := mem_ownO.1 (List.mem_reverse.1 hs)
    have ho := h.spl s hs
    exact ⟨ho.set.asc.imp fun h e => by omega, ho.len.1, fun x hx => mem_rest.2 (ho.bd x hx)⟩) (by
    rw [List.pairwise_reverse, List.pairwise_iff_getElem]
    intro i k hi hk hik
    have ei : gl (ownQ l) i = (ownQ l)[i] := by simp [gl, hi]
    have ek : gl (ownQ l) k = (ownQ l)[k] := by simp [gl, hk]
    rw [← ei, ← ek]
    refine ⟨?_, fun hall => ?_⟩
    · by_cases hc : ∃ x, x ∈ gl (ownQ l) k ∧ x ∈ gl (ownQ l) i
      · obtain ⟨x, h1, h2⟩ := hc
        exact .inr (h.down hik hk h2 h1)
      · exact .inl fun x h1 h2 => hc ⟨x, h1, h2⟩
    · have := h.up (i := k) (k := i) hk hi (by omega) fun x hx => (hall x).2 hx
      omega)
  rw [List.length_reverse] at key
  omega
end Go.Proofs.YtpjijbophjdgaaaGreat
