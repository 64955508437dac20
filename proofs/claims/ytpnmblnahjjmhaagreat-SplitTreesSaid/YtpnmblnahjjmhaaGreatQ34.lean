/- Package intset: Intersect at sets; split.compatible, Compatible, pair, All. The tree of splits: its nodes stand for nested sets; its splits; plain. The laws SplitStates, SplitCompatible: plain. split.Of: the map of names, the closure that asks it. -/
import Derived.Test.YtpnmblnahjjmhaaGreatQ1
import Derived.Test.YtpnmblnahjjmhaaGreatQ33
import Derived.Test.YtpnmblnahjjmhaaGreatQ29
import Derived.Test.YtpnmblnahjjmhaaGreatQ31
import Derived.Test.YtpnmblnahjjmhaaGreatQ18
import Derived.Test.YtpnmblnahjjmhaaGreatQ19
import Derived.Test.YtpnmblnahjjmhaaGreatQ28
namespace Go.Proofs.YtpnmblnahjjmhaaGreat
set_option maxRecDepth 100000
section
open Go.RowKit Go.Shelf Go.Deep
set_option maxHeartbeats 1000000 in
theorem PO (S : Nat → Prop) (w : World) (v u : Value) (a b : List Int) (h : an S w v a) (h2 : an S w u b) (ha : cZ a) (hb : cZ b) (hl : a.length ≤ 1000000) (mw : b.length ≤ 1000000) :
  Calls Tryz.prog 252 #[v, u, .func (.func 253) #[] #[]] w fun e w' => Up w w' ∧ ∃ u, e = .returned (.tuple #[u, .int .i64 0]) ∧ ay w.heap.size 3 w' u ((fF a b).map (Value.int .i64)) := by
 have hu0 := Up.alloc w (.cells #[.func (.func 253) #[] #[]] 251)
 have hb0 := ig w (.func (.func 253) #[] #[]) 251
 obtain ⟨p, cap, rfl, -, -⟩ := aC.open h
 obtain ⟨p2, cF, rfl, -, -⟩ := aC.open h2
 have H : Hid (an S w (.slice p a.length cap) a) := h
 have H2 : Hid (an S w (.slice p2 b.length cF) b) := h2
 have HA := ag ha
 have HB := ag hb
 have YZ := ag hu0
 have gN := ag hb0
 have eH : Hid (∀ W, Up w W → Calls Tryz.prog 155 #[.slice p a.length cap] W fun e w' => e = .returned (.int .i64 0) ∧ W = w') := fun W hW => by
  have h := rE S W _ a (an.keep H.out (hW.kept _)) hl
  rw [fL.2 ha] at h; exact h
 have mC : Hid (∀ W, Up w W → Calls Tryz.prog 155 #[.slice p2 b.length cF] W fun e w' => e = .returned (.int .i64 0) ∧ W = w') := fun W hW => by
  have h := rE S W _ b (an.keep H2.out (hW.kept _)) mw
  rw [fL.2 hb] at h; exact h
 have MO : Hid (∀ w3 B1 B2 b5 b8 b9 c1 c2, Up w w3 → w3.cell? ⟨B1, 0, none⟩ = some (.int .i64 64) → w3.cell? ⟨B2, 0, none⟩ = some (.func (.func 292) #[] #[.pointer (some ⟨b5, 0, none⟩), .pointer (some ⟨b8, 0, none⟩), .pointer (some ⟨b9, 0, none⟩)]) → w3.cell? ⟨b5, 0, none⟩ = some (.func (.func 253) #[] #[]) →
   w3.cell? ⟨b8, 0, none⟩ = some (.func (.func 226) #[] #[.pointer (some ⟨c1, 0, none⟩)]) → w3.cell? ⟨b9, 0, none⟩ = some (.func (.func 226) #[] #[.pointer (some ⟨c2, 0, none⟩)]) → w3.cell? ⟨c1, 0, none⟩ = some (.slice p a.length cap) → w3.cell? ⟨c2, 0, none⟩ = some (.slice p2 b.length cF) →
   Calls Tryz.prog 171 #[.func (.func 229) #[] #[.pointer (some ⟨B1, 0, none⟩), .pointer (some ⟨B2, 0, none⟩)]] w3 (ve w3 (fF a b))) := fun w3 B1 B2 b5 b8 b9 c1 c2 hu q1 q2 q5 q8 q9 r1 r2 => by
  have hks : ∀ W', KS (· < w3.heap.size) w3 W' → ∀ b o x, w3.cell? ⟨b, o, none⟩ = some x → W'.cell? ⟨b, o, none⟩ = some x := fun W' hW b o x hc => (hW.cell (p := ⟨b, o, none⟩) (World.block_lt_of_cell? w3 _ hc)).trans hc
  refine Cl w3 B1 B2 64 (Nat.le_refl _) (fun x => a.contains x && b.contains x) 292 _ (enters_of Tryz.func292 (by af) rfl) q1 q2 fun k hk W' kX => ?_
  exact SK (· < w3.heap.size) W' b5 b8 b9 c1 c2 _ _ a b k (hks W' kX _ _ _ q5) (hks W' kX _ _ _ q8) (hks W' kX _ _ _ q9) (hks W' kX _ _ _ r1) (aC.keep (an.sub (an.keep H.out (hu.kept _)) fun b _ hb => hb) fun b hb _ => kX b hb) hl HA.out.gn (hks W' kX _ _ _ r2) (aC.keep (an.sub (an.keep H2.out (hu.kept _)) fun b _ hb => hb) fun b hb _ => kX b hb) mw HB.out.gn
 have UP : Hid (∀ w3 e w', Up w w3 → ve w3 (fF a b) e w' → ∃ u, e = .returned u ∧ Up w w' ∧ ay w.heap.size 3 w' u ((fF a b).map (Value.int .i64))) := fun w3 e w' hu ⟨h1, u, he, h2⟩ => ⟨u, he, hu.trans h1, by
  obtain ⟨hl, h | ⟨g, cap, cur, hv, hg, hc, hr⟩⟩ := h2
  ·exact ⟨hl, .inl h⟩
  ·exact ⟨hl, .inr ⟨g, cap, cur, hv, Nat.le_trans hu.size hg, hc, hr⟩⟩⟩
 clear h h2 ha hb hu0 hb0
 aq Tryz.func252, Tryz.ntmps252
 aa fail
 generalize w.alloc (.cells #[.func (.func 253) #[] #[]] 251) = w0 at *
 refine (eH.out w0 YZ.out).mono ?_
 rintro e w0' ⟨rfl, rfl⟩
 aa fail
 refine (mC.out w0 YZ.out).mono ?_
 rintro e w0' ⟨rfl, rfl⟩
 aa fail
 refine (Fk _ _ _ _).mono ?_
 rintro e w1 ⟨rfl, hw1⟩
 have cK := Up.alloc w0 (.cells #[.slice p a.length cap] 26)
 have cB := ig w0 (.slice p a.length cap) 26
 rw [← hw1] at cK cB
 have eD := ag cK
 have gU := ag cB
 clear hw1 cK cB
 aa fail
 refine (Fk _ _ _ _).mono ?_
 rintro e w2 ⟨rfl, K1⟩
 have aL := Up.alloc w1 (.cells #[.slice p2 b.length cF] 26)
 have bK := ig w1 (.slice p2 b.length cF) 26
 rw [← K1] at aL bK
 have cM := ag aL
 have Co := ag bK
 clear K1 aL bK
 aa fail
 obtain ⟨t1, t2, t3⟩ := lP w2 (.func (.func 226) #[] #[.pointer (some ⟨w0.heap.size, 0, none⟩)]) (.func (.func 226) #[] #[.pointer (some ⟨w1.heap.size, 0, none⟩)]) 91 91
 generalize (w2.alloc (.cells #[.func (.func 226) #[] #[.pointer (some ⟨w0.heap.size, 0, none⟩)]] 91)).alloc (.cells #[.func (.func 226) #[] #[.pointer (some ⟨w1.heap.size, 0, none⟩)]] 91) = w3 at *
 refine (yx _ _ _ _).mono ?_
 rintro e w4 ⟨rfl, hw4⟩
 obtain ⟨m1, m2, m3⟩ := lP w3 (.int .i64 64) (.func (.func 292) #[] #[.pointer (some ⟨w.heap.size, 0, none⟩), .pointer (some ⟨w2.heap.size, 0, none⟩), .pointer (some ⟨w2.heap.size + 1, 0, none⟩)]) 3 91
 rw [← hw4] at m1 m2 m3
 have Y0 := t1.trans m1
 have Y1 := cM.out.trans Y0
 have Y2 := eD.out.trans Y1
 have gd : Hid (Up w w4) := YZ.out.trans Y2
 have HR := ag (MO.out w4 _ _ _ _ _ _ _ gd.out m2 m3 (Y2.cell gN.out) (m1.cell t2) (m1.cell t3) (Y1.cell gU.out) (Y0.cell Co.out))
 clear hw4 m1 m2 m3 t1 t2 t3 Y0 Y1 Y2
 aa fail
 refine HR.out.mono ?_
 rintro e w5 hp
 obtain ⟨u, rfl, h4, h5⟩ := UP.out w4 e w5 gd.out hp
 have H4 := ag h4
 have H5 := ag h5
 clear hp h4 h5
 aa fail
 exact ⟨rfl, .tuple #[_, _], by simp [results, Tryz.results252, go_sem], H4.out, _, rfl, H5.out⟩
set_option maxHeartbeats 400000 in
theorem JN (S : Nat → Prop) (w : World) (v u : Value) (a b : List Int) (h : an S w v a) (h2 : an S w u b) (ha : cZ a) (hb : cZ b) (hl : a.length ≤ 1000000) (mw : b.length ≤ 1000000) :
  Calls Tryz.prog 199 #[v, u] w fun e w' => Up w w' ∧ ∃ u, e = .returned (.tuple #[u, .int .i64 0]) ∧ ay w.heap.size 3 w' u ((fF a b).map (Value.int .i64)) := by
 have HC := ag (PO S w v u a b h h2 ha hb hl mw)
 obtain ⟨p, cap, rfl, -, -⟩ := aC.open h
 obtain ⟨p2, cF, rfl, -, -⟩ := aC.open h2
 clear h h2
 aq Tryz.func199, Tryz.ntmps199
 aa fail
 refine HC.out.mono ?_
 rintro e w' ⟨h1, u, rfl, h2⟩
 have H1 := ag h1
 have H2 := ag h2
 clear h1 h2
 aa fail
 exact ⟨rfl, .tuple #[_, _], by simp [results, Tryz.results199, go_sem], H1.out, _, rfl, H2.out⟩
set_option maxHeartbeats 1000000 in
theorem Ib (S : Nat → Prop) (w : World) (v u : Value) (a b : List Int) (h : an S w v a) (h2 : an S w u b) (ha : cZ a) (hb : cZ b) (hl : a.length ≤ 1000000) (mw : b.length ≤ 1000000) :
  Calls Tryz.prog 156 #[v, u] w fun e w' => e = .returned (.bool (eU a b)) ∧ Up w w' := by
 have HC := ag (JN S w v u a b h h2 ha hb hl mw)
 have HF : Hid (eU a b = (decide ((fF a b).length = 0) || decide ((fF a b).length = a.length) || decide ((fF a b).length = b.length))) := rfl
 obtain ⟨p, cap, rfl, -, -⟩ := aC.open h
 obtain ⟨p2, cF, rfl, -, -⟩ := aC.open h2
 have HM : Hid ((fF a b).length ≤ 64) := jE _ _
 clear h h2
 aq Tryz.func156, Tryz.ntmps156
 aa fail
 refine HC.out.mono ?_
 rintro e w' ⟨h1, u, rfl, h2⟩
 obtain ⟨q, c, rfl, _⟩ := h2.form (n := (fF a b).length) (by rw [List.length_map])
 have H1 := ag h1
 clear h1 h2
 generalize (fF a b).length = m at *
 generalize a.length = x at *
 generalize b.length = y at *
 by_cases e0 : m = 0
 ·have d : ((m : Int) == 0) = true := by simpa using e0
  have HE := ag e0
  clear e0
  aa fail
  ax
  exact ⟨aZ (by rw [HF.out, decide_eq_true HE.out]; rfl), H1.out⟩
 have d0 : ((m : Int) == 0) = false := beq_eq_false_iff_ne.2 (by omega)
 have HE0 := ag e0
 clear e0
 by_cases e1 : m = x
 ·have d1 : ((m : Int) == (x : Int)) = true := by subst e1; simp
  have HE := ag e1
  clear e1
  aa fail
  ax
  exact ⟨aZ (by rw [HF.out, decide_eq_true HE.out]; simp), H1.out⟩
 have d1 : ((m : Int) == (x : Int)) = false := beq_eq_false_iff_ne.2 (by omega)
 have JT := ag e1
 clear e1
 by_cases e2 : m = y
 ·have d2 : ((m : Int) == (y : Int)) = true := by subst e2; simp
  have HE := ag e2
  clear e2
  aa fail
  ax
  exact ⟨aZ (by rw [HF.out, decide_eq_true HE.out]; simp), H1.out⟩
 ·have d2 : ((m : Int) == (y : Int)) = false := beq_eq_false_iff_ne.2 (by omega)
  have kT := ag e2
  clear e2
  aa fail
  ax
  exact ⟨aZ (by rw [HF.out, decide_eq_false HE0.out, decide_eq_false JT.out, decide_eq_false kT.out]; rfl), H1.out⟩
end
section
theorem vW (n : Nat) : (allI n).Pairwise (· < ·) := by
 unfold allI
 rw [List.pairwise_map]
 exact List.pairwise_lt_range.imp fun h => by omega
theorem EE {n : Nat} (hn : 0 < n) : (0 : Int) :: bw n [0] = allI n := by
 refine me (List.pairwise_cons.2 ⟨fun x hx => ?_, jF _ _⟩) (vW n) fun x => ?_
 ·obtain ⟨h1, h2, h3⟩ := jm.1 hx
  have : x ≠ 0 := fun e => h3 (by rw [e]; simp)
  omega
 ·rw [List.mem_cons, jm, iS]
  constructor
  ·rintro (rfl | ⟨h1, h2, h3⟩)
   ·omega
   ·exact ⟨h1, h2⟩
  ·rintro ⟨h1, h2⟩
   by_cases e : x = 0
   ·exact .inl e
   ·exact .inr ⟨h1, h2, fun h => e (by simpa using h)⟩
theorem lQ {n : Nat} (hn : 0 < n) : (bw n [0]).length + 1 = n := by
 have := congrArg List.length (EE hn)
 rw [sE, List.length_cons] at this; exact this
theorem fV {n : Nat} {x : Int} : x ∈ bw n [0] ↔ 1 ≤ x ∧ x < (n : Int) := by
  rw [jm]
  constructor
  · rintro ⟨h1, h2, h3⟩
    have : x ≠ 0 := fun e => h3 (by rw [e]; simp)
    omega
  · rintro ⟨h1, h2⟩
    exact ⟨by omega, h2, fun h => by have : x = 0 := by simpa using h
                                     omega⟩
section
variable {names : List ByteArray} {l : List (List Int)}
theorem fo.own (h : fo names l) {k : Nat} (hk : k < (aM l).length) : vR names.length (gl (aM l) k) := h.tN _ (lN.1 (iX hk))
theorem fo.lam (h : fo names l) {a b : List Int} (ha : a ∈ l) (hb : b ∈ l) : (∀ x ∈ a, x ∉ b) ∨ (∀ x ∈ a, x ∈ b) ∨ ∀ x ∈ b, x ∈ a := by
 obtain ⟨i, hi, rfl⟩ := tO ha
 obtain ⟨k, hk, rfl⟩ := tO hb
 rcases Nat.lt_trichotomy i k with c | c | c
 ·exact (tJ (h.tN _ ha).set (h.tN _ hb).set).1 (h.cmp i k c hk)
 ·subst c; exact .inr (.inl fun x hx => hx)
 ·rcases (tJ (h.tN _ hb).set (h.tN _ ha).set).1 (h.cmp k i c hi) with e | e | e
  ·exact .inl fun x h1 h2 => e x h2 h1
  ·exact .inr (.inr e)
  ·exact .inr (.inl e)
theorem Db {i k : Nat} (hik : i < k) (hk : k < (aM l).length) : (gl (aM l) k).length ≤ (gl (aM l) i).length ∧ gl (aM l) i ≠ gl (aM l) k := by
 have h := List.pairwise_iff_getElem.1 (JL l) i k (by omega) hk hik
 have e1 : gl (aM l) i = (aM l)[i] := by simp [gl, show i < (aM l).length by omega]
 have e2 : gl (aM l) k = (aM l)[k] := by simp [gl, hk]
 rw [← e1, ← e2] at h
 constructor
 ·unfold gR at h
  split at h
  ·omega
  ·split at h
   ·omega
   ·omega
 ·intro e; rw [e, Ey] at h; omega
theorem fo.up (h : fo names l) {i k : Nat} (hi : i < (aM l).length) (hk : k < (aM l).length) (hne : i ≠ k) (hs : ∀ x ∈ gl (aM l) k, x ∈ gl (aM l) i) : i < k := by
 rcases Nat.lt_trichotomy i k with c | c | c
 ·exact c
 ·exact absurd c hne
 ·obtain ⟨h1, h2⟩ := Db c hi
  have a1 := (h.own hi).set.gn
  have a2 := (h.own hk).set.gn
  have h3 := eB a2 a1 hs
  exact absurd (me a2 a1 fun x => ⟨hs x, kz a2 a1 hs (by omega) x⟩) h2
theorem fo.down (h : fo names l) {i k : Nat} (hi : i < k) (hk : k < (aM l).length) {x : Int} (h1 : x ∈ gl (aM l) i) (h2 : x ∈ gl (aM l) k) : ∀ y ∈ gl (aM l) k, y ∈ gl (aM l) i := by
 rcases h.lam (lN.1 (iX (show i < (aM l).length by omega))) (lN.1 (iX hk)) with e | e | e
 ·exact absurd h2 (e x h1)
 ·have := h.up (i := k) (k := i) hk (by omega) (by omega) e
  omega
 ·exact e
theorem iu {own : List (List Int)} {k : Nat} (hk : k < own.length) : bS names own (3 + k) = gl own k := by
 unfold bS
 rw [if_neg (by omega), if_neg (by omega), if_neg (by omega), if_pos (by omega), show 3 + k - 3 = k by omega]
theorem jQ {own : List (List Int)} {b : Nat} (hb : 1 ≤ b) : bS names own (2 + own.length + b) = [(b : Int)] := by
 unfold bS
 rw [if_neg (by omega), if_neg (by omega), if_neg (by omega), if_neg (by omega), show 2 + own.length + b - 2 - own.length = b by omega]
theorem nB {own : List (List Int)} {n i : Nat} (hi : i < 3 + own.length + (n - 1)) : i = 0 ∨ i = 1 ∨ i = 2 ∨ (∃ k, k < own.length ∧ i = 3 + k) ∨ ∃ b, 1 ≤ b ∧ b < n ∧ i = 2 + own.length + b := by
 by_cases h0 : i = 0
 ·exact .inl h0
 by_cases h1 : i = 1
 ·exact .inr (.inl h1)
 by_cases h2 : i = 2
 ·exact .inr (.inr (.inl h2))
 by_cases h3 : i < 3 + own.length
 ·exact .inr (.inr (.inr (.inl ⟨i - 3, by omega, by omega⟩)))
 ·exact .inr (.inr (.inr (.inr ⟨i - 2 - own.length, by omega, by omega, by omega⟩)))
theorem fo.kind (h : fo names l) (h3 : 3 ≤ names.length) {i : Nat} (hi : i < 3 + (aM l).length + (names.length - 1)) :
    ((bS names (aM l) i).Pairwise (· < ·) ∧ (∀ x ∈ bS names (aM l) i, 0 ≤ x ∧ x < (names.length : Int))) ∧
    ((i = 0 ∧ (bS names (aM l) i).length = names.length) ∨ (i = 1 ∧ (bS names (aM l) i).length = 1 ∧ bS names (aM l) i = [0]) ∨ (i = 2 ∧ (bS names (aM l) i).length + 1 = names.length) ∨
      (∃ k, k < (aM l).length ∧ i = 3 + k ∧ bS names (aM l) i = gl (aM l) k ∧ 2 ≤ (bS names (aM l) i).length ∧ (bS names (aM l) i).length + 2 ≤ names.length) ∨
      ∃ b : Nat, 1 ≤ b ∧ b < names.length ∧ i = 2 + (aM l).length + b ∧ bS names (aM l) i = [(b : Int)] ∧ (bS names (aM l) i).length = 1) := by
  rcases nB hi with rfl | rfl | rfl | ⟨k, hk, rfl⟩ | ⟨b, hb, xU, rfl⟩
  · exact ⟨⟨vW _, fun x hx => iS.1 hx⟩, .inl ⟨rfl, sE _⟩⟩
  · exact ⟨⟨by simp [bS], fun x hx => by have : x = 0 := by simpa [bS] using hx
                                         omega⟩, .inr (.inl ⟨rfl, rfl, rfl⟩)⟩
  · exact ⟨⟨jF _ _, fun x hx => by have := fV.1 hx; omega⟩, .inr (.inr (.inl ⟨rfl, lQ (by omega)⟩))⟩
  · have ho := h.own hk
    have hl := ho.len
    refine ⟨?_, .inr (.inr (.inr (.inl ⟨k, hk, rfl, iu hk, ?_, ?_⟩)))⟩
    · rw [iu hk]
      exact ⟨ho.set.gn, fun x hx => by have := ho.bd x hx; omega⟩
    · rw [iu hk]; omega
    · rw [iu hk]; omega
  · refine ⟨?_, .inr (.inr (.inr (.inr ⟨b, hb, xU, rfl, jQ hb, by rw [jQ hb]; rfl⟩)))⟩
    rw [jQ hb]
    exact ⟨by simp, fun x hx => by have : x = (b : Int) := by simpa using hx
                                   omega⟩
theorem own_x {s : List Int} {n : Int} (h : vR n s) : gi s 0 ∈ s := ng (by have := h.len; omega)
theorem vX (h : fo names l) (h3 : 3 ≤ names.length) (mD : 3 + (aM l).length + (names.length - 1) ≤ 64) : bq names (bT names (aM l)) (bS names (aM l)) := by
  have hlen : (bT names (aM l)).ps.length = 3 + (aM l).length + (names.length - 1) := Hq
  have Cq : bS names (aM l) 2 = bw names.length [0] := rfl
  have hall : bS names (aM l) 0 = allI names.length := rfl
  have hone : bS names (aM l) 1 = [0] := rfl
  have MR : ∀ i, i < 3 + (aM l).length + (names.length - 1) → ∀ x ∈ bS names (aM l) i, x ∈ bS names (aM l) 0 := fun i hi x hx => by
    rw [hall]; exact iS.2 ((h.kind h3 hi).1.2 x hx)
  have K2 : ∀ k, k < (aM l).length → ∀ x ∈ gl (aM l) k, x ∈ bS names (aM l) 2 := fun k hk x hx => by
    rw [Cq]; exact fV.2 ((h.own hk).bd x hx)
  -- the least set above a number and what holds it
  have least : ∀ (x : Int) (k : Nat), k ≤ (aM l).length → 1 ≤ x → x < names.length → ∃ p, p < 3 + k ∧ lastQ (aM l) x k = (p : Int) ∧ 2 ≤ p ∧ x ∈ bS names (aM l) p ∧ (p < 3 + (aM l).length) ∧
      (∀ q, q < k → x ∈ gl (aM l) q → ∀ y ∈ bS names (aM l) p, y ∈ gl (aM l) q) ∧ (∀ y ∈ bS names (aM l) p, y ∈ bS names (aM l) 2) := fun x k hk x1 xn => by
    rcases Cj (aM l) x k with ⟨h1, h2⟩ | ⟨p, p1, p2, p3, p4⟩
    · exact ⟨2, by omega, h1, by omega, by rw [Cq]; exact fV.2 ⟨x1, xn⟩, by omega, fun q hq hx => absurd hx (h2 q hq), fun y hy => hy⟩
    · refine ⟨3 + p, by omega, p2, by omega, by rw [iu (by omega)]; exact p3, by omega, fun q hq hx => ?_, ?_⟩
      · rw [iu (by omega)]
        rcases Nat.lt_trichotomy q p with c | c | c
        · exact h.down c (by omega) hx p3
        · subst c; exact fun y hy => hy
        · exact absurd hx (p4 q c hq)
      · rw [iu (show p < (aM l).length by omega)]
        exact K2 p (by omega)
  refine ⟨h.nm, h.nd, by rw [hlen]; omega, by rw [hlen]; exact mD, by rw [VQ, hlen], by rw [UH, if_pos rfl], fun b hb => by rw [hall]; exact iS.2 ⟨by omega, by omega⟩, fun i hi => ?_, fun i h0 hi => ?_, fun i j hi hj h1 h2 => ?_, fun b hb => ?_, fun i hi => ?_, fun i hi => ?_⟩
  · rw [hlen] at hi
    obtain ⟨⟨k1, k2⟩, k3⟩ := h.kind h3 hi
    refine ⟨k2, fun e => ?_⟩
    rw [e] at k3
    simp only [List.length_nil] at k3
    rcases k3 with k3 | k3 | k3 | ⟨k, _, _, _, k4, _⟩ | ⟨b, _, _, _, _, k4⟩
    · omega
    · omega
    · omega
    · omega
    · omega
  · rw [hlen] at hi
    rw [UH, if_neg (by omega)]
    rcases nB hi with rfl | rfl | rfl | ⟨k, hk, rfl⟩ | ⟨b, hb, xU, rfl⟩
    · omega
    · refine ⟨0, by omega, rfl, MR 1 (by omega), fun j hj hj1 hs => ?_⟩
      rw [hlen] at hj
      rw [hone] at hs
      have hs := hs 0 (by simp)
      rcases nB hj with rfl | rfl | rfl | ⟨k, hk, rfl⟩ | ⟨b, hb, xU, rfl⟩
      · exact fun x hx => hx
      · exact absurd rfl hj1
      · rw [Cq] at hs; have := fV.1 hs; omega
      · rw [iu hk] at hs; have := (h.own hk).bd 0 hs; omega
      · rw [jQ hb] at hs; have : (0 : Int) = b := by simpa using hs
        omega
    · refine ⟨0, by omega, rfl, MR 2 (by omega), fun j hj hj1 hs => ?_⟩
      rw [hlen] at hj
      obtain ⟨⟨k1, k2⟩, k3⟩ := h.kind h3 hj
      have mw := eB (jF _ _) k1 (by rw [Cq] at hs; exact hs)
      have BE := lQ (n := names.length) (by omega)
      have mw : (bw names.length [0]).length ≤ (bS names (aM l) j).length := mw
      rcases k3 with ⟨rfl, _⟩ | ⟨_, k3, _⟩ | ⟨rfl, _⟩ | ⟨k, _, _, _, _, k4⟩ | ⟨b, _, _, _, _, k4⟩
      · exact fun x hx => hx
      · omega
      · exact absurd rfl hj1
      · omega
      · omega
    · rw [if_neg (by omega), if_pos (by omega), show 3 + k - 3 = k by omega]
      have ho := h.own hk
      have hx := own_x ho
      have hxb := ho.bd _ hx
      obtain ⟨p, p1, p2, p2', p3, p4, p5, p6⟩ := least (gi (gl (aM l) k) 0) k (by omega) hxb.1 hxb.2
      have hsub : ∀ y ∈ gl (aM l) k, y ∈ bS names (aM l) p := by
        rcases nB (n := names.length) (show p < 3 + (aM l).length + (names.length - 1) by omega) with rfl | rfl | rfl | ⟨q, hq, rfl⟩ | ⟨b, hb, xU, rfl⟩
        · omega
        · omega
        · exact K2 k hk
        · rw [iu hq] at p3 ⊢
          exact h.down (by omega) hk p3 hx
        · omega
      refine ⟨p, by omega, p2, by rw [iu hk]; exact hsub, fun j hj hj1 hs => ?_⟩
      rw [hlen] at hj
      rw [iu hk] at hs
      have yz := hs _ hx
      rcases nB hj with rfl | rfl | rfl | ⟨q, hq, rfl⟩ | ⟨b, hb, xU, rfl⟩
      · exact MR p (by omega)
      · rw [hone] at yz; have : gi (gl (aM l) k) 0 = 0 := by simpa using yz
        omega
      · exact p6
      · rw [iu hq] at hs yz ⊢
        have Ur := h.up hq hk (fun e => hj1 (by rw [e])) hs
        exact p5 q Ur yz
      · exfalso
        rw [jQ hb] at hs
        have q1 := eB ho.set.gn (by simp) hs
        have q2 := ho.len
        rw [List.length_singleton] at q1
        omega
    · rw [if_neg (by omega), if_neg (by omega), if_pos (by omega), show 2 + (aM l).length + b - 2 - (aM l).length = b by omega]
      obtain ⟨p, p1, p2, p2', p3, p4, p5, p6⟩ := least (b : Int) (aM l).length (Nat.le_refl _) (by omega) (by omega)
      refine ⟨p, by omega, p2, by rw [jQ hb]; intro x hx; have : x = (b : Int) := by simpa using hx
                                  rw [this]; exact p3, fun j hj hj1 hs => ?_⟩
      rw [hlen] at hj
      rw [jQ hb] at hs
      have yz := hs (b : Int) (by simp)
      rcases nB hj with rfl | rfl | rfl | ⟨q, hq, rfl⟩ | ⟨b', hb', hbn', rfl⟩
      · exact MR p (by omega)
      · rw [hone] at yz; have : (b : Int) = 0 := by simpa using yz
        omega
      · exact p6
      · rw [iu hq] at yz ⊢
        exact p5 q hq yz
      · rw [jQ hb'] at yz; have : (b : Int) = b' := by simpa using yz
        exact absurd (by rw [show b' = b by omega]) hj1
  · rw [hlen] at hi hj
    obtain ⟨⟨a1, a2⟩, a3⟩ := h.kind h3 hi
    obtain ⟨⟨c1, c2⟩, c3⟩ := h.kind h3 hj
    have e := me a1 c1 fun x => ⟨h1 x, h2 x⟩
    have el := congrArg List.length e
    rcases a3 with ⟨rfl, a4⟩ | ⟨rfl, a4, a5⟩ | ⟨rfl, a4⟩ | ⟨k, hk, rfl, a6, a4, a5⟩ | ⟨b, b1, b2, rfl, a5, a4⟩ <;>
    rcases c3 with ⟨rfl, c4⟩ | ⟨rfl, c4, c5⟩ | ⟨rfl, c4⟩ | ⟨k', hk', rfl, c6, c4, c5⟩ | ⟨b', d1, d2, rfl, c5, c4⟩ <;>
    first | omega | skip
    · rw [a5, c5] at e; injection e with e; omega
    · rw [a6, c6] at e
      rcases Nat.lt_trichotomy k k' with c | c | c
      · exact absurd e (Db c hk').2
      · rw [c]
      · exact absurd e.symm (Db c hk).2
    · rw [a5, c5] at e; injection e with e; omega
    · rw [a5, c5] at e; injection e with e; omega
  · by_cases h0 : b = 0
    · subst h0; exact ⟨1, by rw [hlen]; omega, rfl⟩
    · exact ⟨2 + (aM l).length + b, by rw [hlen]; omega, jQ (by omega)⟩
  · rw [hlen] at hi
    unfold bT
    rcases nB hi with rfl | rfl | rfl | ⟨k, hk, rfl⟩ | ⟨b, hb, xU, rfl⟩
    · rw [hall, Ee, if_neg (by rw [sE]; omega)]; rfl
    · rfl
    · rw [Cq, Ee, if_neg (by have := lQ (n := names.length) (by omega); omega)]; rfl
    · have := (h.own hk).len
      rw [iu hk, Ee, if_neg (by omega), show 3 + k = k + 1 + 1 + 1 by omega]
      show gs (List.replicate (aM l).length ByteArray.empty ++ (List.range (names.length - 1)).map fun b => gs names (b + 1)) k = _
      simp [gs, List.getElem?_append, hk]
    · obtain ⟨c, rfl⟩ : ∃ c, b = c + 1 := ⟨b - 1, by omega⟩
      rw [jQ hb]
      have e1 : Ee names [((c + 1 : Nat) : Int)] = gs names (c + 1) := by
        unfold Ee
        rw [if_pos (show [((c + 1 : Nat) : Int)].length = 1 from rfl)]
        show gs names ((c + 1 : Nat) : Int).toNat = _
        rw [Int.toNat_natCast]
      rw [e1, show 2 + (aM l).length + (c + 1) = (aM l).length + c + 1 + 1 + 1 by omega]
      show gs (List.replicate (aM l).length ByteArray.empty ++ (List.range (names.length - 1)).map fun b => gs names (b + 1)) ((aM l).length + c) = _
      simp [gs, show c < names.length - 1 by omega]
  · rw [hlen] at hi
    exact yl (h.kind h3 hi).1.1
end
end
section
end
section
open Go.RowKit Go.Deep
def smK (names : List ByteArray) : Nat → List (ByteArray × Value)
 | 0 => []
 | k + 1 => sA (smK names k) (gs names k) (.bool true)
def uv (names : List ByteArray) (k : Nat) (s : ByteArray) : Bool := (List.range k).any fun j => decide (gs names j = s)
theorem Ic (names : List ByteArray) : ∀ k, za (smK names k)
 | 0 => List.nodup_nil
 | k + 1 => OY (Ic names k) _ _
theorem AM (names : List ByteArray) (s : ByteArray) : ∀ k, ((smK names k).lookup s).getD (.bool false) = .bool (uv names k s)
 | 0 => rfl
 | k + 1 => by
  rw [smK, JF]
  have e : uv names (k + 1) s = (uv names k s || decide (gs names k = s)) := by unfold uv; rw [List.range_succ, List.any_append]; simp
  rw [e]
  by_cases h : s = gs names k
  ·rw [if_pos h, decide_eq_true h.symm]; simp
  ·rw [if_neg h, AM names s k, decide_eq_false (fun q => h q.symm)]; simp
theorem VV (names : List ByteArray) (s : ByteArray) : uv names names.length s = !decide (fG names s < 0) := by
 have h1 : decide (0 ≤ fG names s) = (List.range names.length).any fun j => decide (s = gs names j) := gG _ _
 have h2 : uv names names.length s = (List.range names.length).any fun j => decide (s = gs names j) := by
  unfold uv
  congr 1
  funext j
  by_cases e : gs names j = s
  ·rw [decide_eq_true e, decide_eq_true e.symm]
  ·rw [decide_eq_false e, decide_eq_false fun q => e q.symm]
 rw [h2, ← h1]
 by_cases h : fG names s < 0
 ·rw [decide_eq_true h, decide_eq_false (by omega)]; rfl
 ·rw [decide_eq_false h, decide_eq_true (by omega)]; rfl
theorem EF (w : World) : (zeroValue 4).run Tryz.prog w = .ok (.bool false) w := by simp [Tryz.zeroValue4]
set_option maxHeartbeats 1000000 in
theorem of1_t (w : World) (S : Nat → Prop) (b8 bt mb : Nat) (np : Option Addr) (nc : Nat) (ns names : List ByteArray) (k : Nat) (h8 : w.cell? ⟨b8, 0, none⟩ = some (.map (some mb))) (hm : SMap w mb (smK names names.length)) (ht : w.cell? ⟨bt, 1, none⟩ = some (.slice np ns.length nc)) (hN : aG S w (.slice np ns.length nc) ns) (hk : k < ns.length) :
  z7 100 #[.pointer (some ⟨b8, 0, none⟩), .pointer (some ⟨bt, 0, none⟩)] #[.int .i64 (k : Int)] (.bool (decide (fG names (gs ns k) < 0))) w := by
 intro m
 show Calls Tryz.prog 100 #[.int .i64 (k : Int), .pointer (some ⟨b8, 0, none⟩), .pointer (some ⟨bt, 0, none⟩)] (w.drewN m) _
 have hd := Up.drewN w m
 obtain ⟨nb, no, rfl, c4⟩ := dh hN hk
 have c1 := hd.cell h8
 have c2 := hd.cell ht
 have c4 := hd.cell c4
 have k1 : (0 : Int) ≤ (k : Int) := Int.natCast_nonneg _
 have k2 : (k : Int) < (ns.length : Int) := Int.ofNat_lt.2 hk
 have hlk : ∀ n, (Instr.lookup 114 (.map (some mb)) (.string (gs ns k)) false).run Tryz.prog ((w.drewN m).drewN n) = .ok (.bool (!decide (fG names (gs ns k) < 0))) ((w.drewN m).drewN n) := fun n => by
  have hm2 : SMap ((w.drewN m).drewN n) mb (smK names names.length) := hm.same rfl
  have h := D8 (P := Tryz.prog) Tryz.underlying114 Tryz.underlying9 (EF _) hm2 (gs ns k)
  rw [AM, VV] at h
  exact h
 obtain ⟨W, hW⟩ : ∃ W, W = w.drewN m := ⟨_, rfl⟩
 have HW := ag hW
 rw [← hW] at c1 c2 c4 hlk ⊢
 clear hd h8 hm ht hN hk hW
 generalize gs ns k = s at *
 generalize decide (fG names s < 0) = b at *
 aq Tryz.func100, Tryz.ntmps100
 aa fail
 cn (fail)
 aa fail
 ax
 exact ⟨by cases b <;> rfl, m + nq, by rw [HW.out, World.drewN_drewN]⟩
end
end Go.Proofs.YtpnmblnahjjmhaaGreat
