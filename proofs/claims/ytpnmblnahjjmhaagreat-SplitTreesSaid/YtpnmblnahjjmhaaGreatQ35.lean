/- Package intset: Intersect at sets; split.compatible, Compatible, pair, All. The tree of .. -/
import Derived.Test.YtpnmblnahjjmhaaGreatQ1
import Derived.Test.YtpnmblnahjjmhaaGreatQ34
import Derived.Test.YtpnmblnahjjmhaaGreatQ30
import Derived.Test.YtpnmblnahjjmhaaGreatQ32
import Derived.Test.YtpnmblnahjjmhaaGreatQ18
import Derived.Test.YtpnmblnahjjmhaaGreatQ19
import Derived.Test.YtpnmblnahjjmhaaGreatQ29
set_option maxRecDepth 100000
namespace Go.Proofs.YtpnmblnahjjmhaaGreat
section
open Go.RowKit Go.Shelf Go.Deep
set_option maxHeartbeats 1000000 in
theorem PL (S : Nat → Prop) (w : World) (v u : Value) (a b : List Int) (h : af S w v a) (h2 : af S w u b) (ha : cz a) (hb : cz b) (hl : a.length ≤ 1000000) (hl2 : b.length ≤ 1000000) :
  Calls Tryz.prog 252 #[v, u, .func (.func 253) #[] #[]] w fun e w' => Up w w' ∧ ∃ u, e = .returned (.tuple #[u, .int .i64 0]) ∧ ah w.heap.size 3 w' u ((eO a b).map (Value.int .i64)) := by
 have hu0 := Up.alloc w (.cells #[.func (.func 253) #[] #[]] 251)
 have hb0 := gG w (.func (.func 253) #[] #[]) 251
 obtain ⟨p, cap, rfl, -, -⟩ := av.open h
 obtain ⟨p2, bJ, rfl, -, -⟩ := av.open h2
 have H : Hid (af S w (.slice p a.length cap) a) := h
 have H2 : Hid (af S w (.slice p2 b.length bJ) b) := h2
 have HA := aa ha
 have HB := aa hb
 have Y2 := aa hu0
 have gm := aa hb0
 have dM : Hid (∀ W, Up w W → Calls Tryz.prog 155 #[.slice p a.length cap] W fun e w' => e = .returned (.int .i64 0) ∧ W = w') := fun W hW => by
  have h := qI S W _ a (af.keep H.out (hW.kept _)) hl
  rw [eX.2 ha] at h; exact h
 have lC : Hid (∀ W, Up w W → Calls Tryz.prog 155 #[.slice p2 b.length bJ] W fun e w' => e = .returned (.int .i64 0) ∧ W = w') := fun W hW => by
  have h := qI S W _ b (af.keep H2.out (hW.kept _)) hl2
  rw [eX.2 hb] at h; exact h
 have REST : Hid (∀ w3 B1 B2 b5 b8 b9 c1 c2, Up w w3 → w3.cell? ⟨B1, 0, none⟩ = some (.int .i64 64) → w3.cell? ⟨B2, 0, none⟩ = some (.func (.func 292) #[] #[.pointer (some ⟨b5, 0, none⟩), .pointer (some ⟨b8, 0, none⟩), .pointer (some ⟨b9, 0, none⟩)]) → w3.cell? ⟨b5, 0, none⟩ = some (.func (.func 253) #[] #[]) →
   w3.cell? ⟨b8, 0, none⟩ = some (.func (.func 226) #[] #[.pointer (some ⟨c1, 0, none⟩)]) → w3.cell? ⟨b9, 0, none⟩ = some (.func (.func 226) #[] #[.pointer (some ⟨c2, 0, none⟩)]) → w3.cell? ⟨c1, 0, none⟩ = some (.slice p a.length cap) → w3.cell? ⟨c2, 0, none⟩ = some (.slice p2 b.length bJ) →
   Calls Tryz.prog 171 #[.func (.func 229) #[] #[.pointer (some ⟨B1, 0, none⟩), .pointer (some ⟨B2, 0, none⟩)]] w3 (uI w3 (eO a b))) := fun w3 B1 B2 b5 b8 b9 c1 c2 hu q1 q2 q5 q8 q9 r1 r2 => by
  have hks : ∀ W', KS (· < w3.heap.size) w3 W' → ∀ b o x, w3.cell? ⟨b, o, none⟩ = some x → W'.cell? ⟨b, o, none⟩ = some x := fun W' hW b o x hc => (hW.cell (p := ⟨b, o, none⟩) (World.block_lt_of_cell? w3 _ hc)).trans hc
  refine Ca w3 B1 B2 64 (Nat.le_refl _) (fun x => a.contains x && b.contains x) 292 _ (enters_of Tryz.func292 (by kernel_rfl) rfl) q1 q2 fun k hk W' ki => ?_
  exact SL (· < w3.heap.size) W' b5 b8 b9 c1 c2 _ _ a b k (hks W' ki _ _ _ q5) (hks W' ki _ _ _ q8) (hks W' ki _ _ _ q9) (hks W' ki _ _ _ r1) (av.keep (af.sub (af.keep H.out (hu.kept _)) fun b _ hb => hb) fun b hb _ => ki b hb) hl HA.out.fF (hks W' ki _ _ _ r2) (av.keep (af.sub (af.keep H2.out (hu.kept _)) fun b _ hb => hb) fun b hb _ => ki b hb) hl2 HB.out.fF
 have UT : Hid (∀ w3 e w', Up w w3 → uI w3 (eO a b) e w' → ∃ u, e = .returned u ∧ Up w w' ∧ ah w.heap.size 3 w' u ((eO a b).map (Value.int .i64))) := fun w3 e w' hu ⟨h1, u, he, h2⟩ => ⟨u, he, hu.trans h1, by
  obtain ⟨hl, h | ⟨g, cap, cur, hv, hg, hc, hr⟩⟩ := h2
  ·exact ⟨hl, .inl h⟩
  ·exact ⟨hl, .inr ⟨g, cap, cur, hv, Nat.le_trans hu.size hg, hc, hr⟩⟩⟩
 clear h h2 ha hb hu0 hb0
 go_enter Tryz.func252, Tryz.ntmps252
 go_wp2_with fail
 generalize w.alloc (.cells #[.func (.func 253) #[] #[]] 251) = w0 at *
 refine (dM.out w0 Y2.out).mono ?_
 rintro e w0' ⟨rfl, rfl⟩
 go_wp2_with fail
 refine (lC.out w0 Y2.out).mono ?_
 rintro e w0' ⟨rfl, rfl⟩
 go_wp2_with fail
 refine (Ff _ _ _ _).mono ?_
 rintro e w1 ⟨rfl, hw1⟩
 have bO := Up.alloc w0 (.cells #[.slice p a.length cap] 26)
 have hb1 := gG w0 (.slice p a.length cap) 26
 rw [← hw1] at bO hb1
 have dJ := aa bO
 have gz := aa hb1
 clear hw1 bO hb1
 go_wp2_with fail
 refine (Ff _ _ _ _).mono ?_
 rintro e w2 ⟨rfl, hw2⟩
 have aC := Up.alloc w1 (.cells #[.slice p2 b.length bJ] 26)
 have hb2 := gG w1 (.slice p2 b.length bJ) 26
 rw [← hw2] at aC hb2
 have bU := aa aC
 have Ce := aa hb2
 clear hw2 aC hb2
 go_wp2_with fail
 obtain ⟨t1, t2, t3⟩ := kO w2 (.func (.func 226) #[] #[.pointer (some ⟨w0.heap.size, 0, none⟩)]) (.func (.func 226) #[] #[.pointer (some ⟨w1.heap.size, 0, none⟩)]) 91 91
 generalize (w2.alloc (.cells #[.func (.func 226) #[] #[.pointer (some ⟨w0.heap.size, 0, none⟩)]] 91)).alloc (.cells #[.func (.func 226) #[] #[.pointer (some ⟨w1.heap.size, 0, none⟩)]] 91) = w3 at *
 refine (x5 _ _ _ _).mono ?_
 rintro e w4 ⟨rfl, hw4⟩
 obtain ⟨m1, m2, m3⟩ := kO w3 (.int .i64 64) (.func (.func 292) #[] #[.pointer (some ⟨w.heap.size, 0, none⟩), .pointer (some ⟨w2.heap.size, 0, none⟩), .pointer (some ⟨w2.heap.size + 1, 0, none⟩)]) 3 91
 rw [← hw4] at m1 m2 m3
 have Y3 := t1.trans m1
 have Y4 := bU.out.trans Y3
 have Y5 := dJ.out.trans Y4
 have fB : Hid (Up w w4) := Y2.out.trans Y5
 have HR := aa (REST.out w4 _ _ _ _ _ _ _ fB.out m2 m3 (Y5.cell gm.out) (m1.cell t2) (m1.cell t3) (Y4.cell gz.out) (Y3.cell Ce.out))
 clear hw4 m1 m2 m3 t1 t2 t3 Y3 Y4 Y5
 go_wp2_with fail
 refine HR.out.mono ?_
 rintro e w5 hp
 obtain ⟨u, rfl, h4, h5⟩ := UT.out w4 e w5 fB.out hp
 have H4 := aa h4
 have H5 := aa h5
 clear hp h4 h5
 go_wp2_with fail
 exact ⟨rfl, .tuple #[_, _], by simp [results, Tryz.results252, go_sem], H4.out, _, rfl, H5.out⟩
set_option maxHeartbeats 400000 in
theorem JO (S : Nat → Prop) (w : World) (v u : Value) (a b : List Int) (h : af S w v a) (h2 : af S w u b) (ha : cz a) (hb : cz b) (hl : a.length ≤ 1000000) (hl2 : b.length ≤ 1000000) :
  Calls Tryz.prog 199 #[v, u] w fun e w' => Up w w' ∧ ∃ u, e = .returned (.tuple #[u, .int .i64 0]) ∧ ah w.heap.size 3 w' u ((eO a b).map (Value.int .i64)) := by
 have HC := aa (PL S w v u a b h h2 ha hb hl hl2)
 obtain ⟨p, cap, rfl, -, -⟩ := av.open h
 obtain ⟨p2, bJ, rfl, -, -⟩ := av.open h2
 clear h h2
 go_enter Tryz.func199, Tryz.ntmps199
 go_wp2_with fail
 refine HC.out.mono ?_
 rintro e w' ⟨h1, u, rfl, h2⟩
 have H1 := aa h1
 have H2 := aa h2
 clear h1 h2
 go_wp2_with fail
 exact ⟨rfl, .tuple #[_, _], by simp [results, Tryz.results199, go_sem], H1.out, _, rfl, H2.out⟩
set_option maxHeartbeats 1000000 in
theorem Hz (S : Nat → Prop) (w : World) (v u : Value) (a b : List Int) (h : af S w v a) (h2 : af S w u b) (ha : cz a) (hb : cz b) (hl : a.length ≤ 1000000) (hl2 : b.length ≤ 1000000) :
  Calls Tryz.prog 156 #[v, u] w fun e w' => e = .returned (.bool (dU a b)) ∧ Up w w' := by
 have HC := aa (JO S w v u a b h h2 ha hb hl hl2)
 have HF : Hid (dU a b = (decide ((eO a b).length = 0) || decide ((eO a b).length = a.length) || decide ((eO a b).length = b.length))) := rfl
 obtain ⟨p, cap, rfl, -, -⟩ := av.open h
 obtain ⟨p2, bJ, rfl, -, -⟩ := av.open h2
 have HM : Hid ((eO a b).length ≤ 64) := ja _ _
 clear h h2
 go_enter Tryz.func156, Tryz.ntmps156
 go_wp2_with fail
 refine HC.out.mono ?_
 rintro e w' ⟨h1, u, rfl, h2⟩
 obtain ⟨q, c, rfl, _⟩ := h2.form (n := (eO a b).length) (by rw [List.length_map])
 have H1 := aa h1
 clear h1 h2
 generalize (eO a b).length = m at *
 generalize a.length = x at *
 generalize b.length = y at *
 by_cases e0 : m = 0
 ·have d : ((m : Int) == 0) = true := by simpa using e0
  have HE := aa e0
  clear e0
  go_wp2_with fail
  go_ret
  exact ⟨aO (by rw [HF.out, decide_eq_true HE.out]; rfl), H1.out⟩
 have d0 : ((m : Int) == 0) = false := beq_eq_false_iff_ne.2 (by omega)
 have HE0 := aa e0
 clear e0
 by_cases e1 : m = x
 ·have d1 : ((m : Int) == (x : Int)) = true := by subst e1; simp
  have HE := aa e1
  clear e1
  go_wp2_with fail
  go_ret
  exact ⟨aO (by rw [HF.out, decide_eq_true HE.out]; simp), H1.out⟩
 have d1 : ((m : Int) == (x : Int)) = false := beq_eq_false_iff_ne.2 (by omega)
 have JT := aa e1
 clear e1
 by_cases e2 : m = y
 ·have d2 : ((m : Int) == (y : Int)) = true := by subst e2; simp
  have HE := aa e2
  clear e2
  go_wp2_with fail
  go_ret
  exact ⟨aO (by rw [HF.out, decide_eq_true HE.out]; simp), H1.out⟩
 ·have d2 : ((m : Int) == (y : Int)) = false := beq_eq_false_iff_ne.2 (by omega)
  have jZ := aa e2
  clear e2
  go_wp2_with fail
  go_ret
  exact ⟨aO (by rw [HF.out, decide_eq_false HE0.out, decide_eq_false JT.out, decide_eq_false jZ.out]; rfl), H1.out⟩
end
section
theorem vF (n : Nat) : (allI n).Pairwise (· < ·) := by
 unfold allI
 rw [List.pairwise_map]
 exact List.pairwise_lt_range.imp fun h => by omega
theorem Ey {n : Nat} (hn : 0 < n) : (0 : Int) :: aS n [0] = allI n := by
 refine k7 (List.pairwise_cons.2 ⟨fun x hx => ?_, jb _ _⟩) (vF n) fun x => ?_
 ·obtain ⟨h1, h2, h3⟩ := iN.1 hx
  have : x ≠ 0 := fun e => h3 (by rw [e]; simp)
  omega
 ·rw [List.mem_cons, iN, iw]
  constructor
  ·rintro (rfl | ⟨h1, h2, h3⟩)
   ·omega
   ·exact ⟨h1, h2⟩
  ·rintro ⟨h1, h2⟩
   by_cases e : x = 0
   ·exact .inl e
   ·exact .inr ⟨h1, h2, fun h => e (by simpa using h)⟩
theorem kP {n : Nat} (hn : 0 < n) : (aS n [0]).length + 1 = n := by
 have := congrArg List.length (Ey hn)
 rw [rQ, List.length_cons] at this; exact this
theorem fq {n : Nat} {x : Int} : x ∈ aS n [0] ↔ 1 ≤ x ∧ x < (n : Int) := by
  rw [iN]
  constructor
  · rintro ⟨h1, h2, h3⟩
    have : x ≠ 0 := fun e => h3 (by rw [e]; simp)
    omega
  · rintro ⟨h1, h2⟩
    exact ⟨by omega, h2, fun h => by have : x = 0 := by simpa using h
                                     omega⟩
section
variable {names : List ByteArray} {l : List (List Int)}
theorem eD.own (h : eD names l) {k : Nat} (hk : k < (aD l).length) : vA names.length (gl (aD l) k) := h.td _ (kN.1 (iC hk))
theorem eD.lam (h : eD names l) {a b : List Int} (ha : a ∈ l) (hb : b ∈ l) : (∀ x ∈ a, x ∉ b) ∨ (∀ x ∈ a, x ∈ b) ∨ ∀ x ∈ b, x ∈ a := by
 obtain ⟨i, hi, rfl⟩ := th ha
 obtain ⟨k, hk, rfl⟩ := th hb
 rcases Nat.lt_trichotomy i k with c | c | c
 ·exact (s6 (h.td _ ha).set (h.td _ hb).set).1 (h.cmp i k c hk)
 ·subst c; exact .inr (.inl fun x hx => hx)
 ·rcases (s6 (h.td _ hb).set (h.td _ ha).set).1 (h.cmp k i c hi) with e | e | e
  ·exact .inl fun x h1 h2 => e x h2 h1
  ·exact .inr (.inr e)
  ·exact .inr (.inl e)
theorem C1 {i k : Nat} (hik : i < k) (hk : k < (aD l).length) : (gl (aD l) k).length ≤ (gl (aD l) i).length ∧ gl (aD l) i ≠ gl (aD l) k := by
 have h := List.pairwise_iff_getElem.1 (JM l) i k (by omega) hk hik
 have e1 : gl (aD l) i = (aD l)[i] := by simp [gl, show i < (aD l).length by omega]
 have e2 : gl (aD l) k = (aD l)[k] := by simp [gl, hk]
 rw [← e1, ← e2] at h
 constructor
 ·unfold gw at h
  split at h
  ·omega
  ·split at h
   ·omega
   ·omega
 ·intro e; rw [e, Es] at h; omega
theorem eD.up (h : eD names l) {i k : Nat} (hi : i < (aD l).length) (hk : k < (aD l).length) (hne : i ≠ k) (hs : ∀ x ∈ gl (aD l) k, x ∈ gl (aD l) i) : i < k := by
 rcases Nat.lt_trichotomy i k with c | c | c
 ·exact c
 ·exact absurd c hne
 ·obtain ⟨h1, h2⟩ := C1 c hi
  have a1 := (h.own hi).set.fF
  have a2 := (h.own hk).set.fF
  have h3 := dH a2 a1 hs
  exact absurd (k7 a2 a1 fun x => ⟨hs x, jH a2 a1 hs (by omega) x⟩) h2
theorem eD.down (h : eD names l) {i k : Nat} (hi : i < k) (hk : k < (aD l).length) {x : Int} (h1 : x ∈ gl (aD l) i) (h2 : x ∈ gl (aD l) k) : ∀ y ∈ gl (aD l) k, y ∈ gl (aD l) i := by
 rcases h.lam (kN.1 (iC (show i < (aD l).length by omega))) (kN.1 (iC hk)) with e | e | e
 ·exact absurd h2 (e x h1)
 ·have := h.up (i := k) (k := i) hk (by omega) (by omega) e
  omega
 ·exact e
theorem gK {own : List (List Int)} {k : Nat} (hk : k < own.length) : bS names own (3 + k) = gl own k := by
 unfold bS
 rw [if_neg (by omega), if_neg (by omega), if_neg (by omega), if_pos (by omega), show 3 + k - 3 = k by omega]
theorem jm {own : List (List Int)} {b : Nat} (hb : 1 ≤ b) : bS names own (2 + own.length + b) = [(b : Int)] := by
 unfold bS
 rw [if_neg (by omega), if_neg (by omega), if_neg (by omega), if_neg (by omega), show 2 + own.length + b - 2 - own.length = b by omega]
theorem mE {own : List (List Int)} {n i : Nat} (hi : i < 3 + own.length + (n - 1)) : i = 0 ∨ i = 1 ∨ i = 2 ∨ (∃ k, k < own.length ∧ i = 3 + k) ∨ ∃ b, 1 ≤ b ∧ b < n ∧ i = 2 + own.length + b := by
 by_cases h0 : i = 0
 ·exact .inl h0
 by_cases h1 : i = 1
 ·exact .inr (.inl h1)
 by_cases h2 : i = 2
 ·exact .inr (.inr (.inl h2))
 by_cases h3 : i < 3 + own.length
 ·exact .inr (.inr (.inr (.inl ⟨i - 3, by omega, by omega⟩)))
 ·exact .inr (.inr (.inr (.inr ⟨i - 2 - own.length, by omega, by omega, by omega⟩)))
theorem eD.kind (h : eD names l) (h3 : 3 ≤ names.length) {i : Nat} (hi : i < 3 + (aD l).length + (names.length - 1)) :
    ((bS names (aD l) i).Pairwise (· < ·) ∧ (∀ x ∈ bS names (aD l) i, 0 ≤ x ∧ x < (names.length : Int))) ∧
    ((i = 0 ∧ (bS names (aD l) i).length = names.length) ∨ (i = 1 ∧ (bS names (aD l) i).length = 1 ∧ bS names (aD l) i = [0]) ∨ (i = 2 ∧ (bS names (aD l) i).length + 1 = names.length) ∨
      (∃ k, k < (aD l).length ∧ i = 3 + k ∧ bS names (aD l) i = gl (aD l) k ∧ 2 ≤ (bS names (aD l) i).length ∧ (bS names (aD l) i).length + 2 ≤ names.length) ∨
      ∃ b : Nat, 1 ≤ b ∧ b < names.length ∧ i = 2 + (aD l).length + b ∧ bS names (aD l) i = [(b : Int)] ∧ (bS names (aD l) i).length = 1) := by
  rcases mE hi with rfl | rfl | rfl | ⟨k, hk, rfl⟩ | ⟨b, hb, xE, rfl⟩
  · exact ⟨⟨vF _, fun x hx => iw.1 hx⟩, .inl ⟨rfl, rQ _⟩⟩
  · exact ⟨⟨by simp [bS], fun x hx => by have : x = 0 := by simpa [bS] using hx
                                         omega⟩, .inr (.inl ⟨rfl, rfl, rfl⟩)⟩
  · exact ⟨⟨jb _ _, fun x hx => by have := fq.1 hx; omega⟩, .inr (.inr (.inl ⟨rfl, kP (by omega)⟩))⟩
  · have ho := h.own hk
    have hl := ho.len
    refine ⟨?_, .inr (.inr (.inr (.inl ⟨k, hk, rfl, gK hk, ?_, ?_⟩)))⟩
    · rw [gK hk]
      exact ⟨ho.set.fF, fun x hx => by have := ho.bd x hx; omega⟩
    · rw [gK hk]; omega
    · rw [gK hk]; omega
  · refine ⟨?_, .inr (.inr (.inr (.inr ⟨b, hb, xE, rfl, jm hb, by rw [jm hb]; rfl⟩)))⟩
    rw [jm hb]
    exact ⟨by simp, fun x hx => by have : x = (b : Int) := by simpa using hx
                                   omega⟩
theorem own_x {s : List Int} {n : Int} (h : vA n s) : gi s 0 ∈ s := gi_in (by have := h.len; omega)
theorem vG (h : eD names l) (h3 : 3 ≤ names.length) (hsm : 3 + (aD l).length + (names.length - 1) ≤ 64) : aQ names (bT names (aD l)) (bS names (aD l)) := by
  have hlen : (bT names (aD l)).ps.length = 3 + (aD l).length + (names.length - 1) := Ho
  have Cf : bS names (aD l) 2 = aS names.length [0] := rfl
  have hall : bS names (aD l) 0 = allI names.length := rfl
  have hone : bS names (aD l) 1 = [0] := rfl
  have MO : ∀ i, i < 3 + (aD l).length + (names.length - 1) → ∀ x ∈ bS names (aD l) i, x ∈ bS names (aD l) 0 := fun i hi x hx => by
    rw [hall]; exact iw.2 ((h.kind h3 hi).1.2 x hx)
  have KZ : ∀ k, k < (aD l).length → ∀ x ∈ gl (aD l) k, x ∈ bS names (aD l) 2 := fun k hk x hx => by
    rw [Cf]; exact fq.2 ((h.own hk).bd x hx)
  -- the least set above a number and what holds it
  have least : ∀ (x : Int) (k : Nat), k ≤ (aD l).length → 1 ≤ x → x < names.length → ∃ p, p < 3 + k ∧ lastQ (aD l) x k = (p : Int) ∧ 2 ≤ p ∧ x ∈ bS names (aD l) p ∧ (p < 3 + (aD l).length) ∧
      (∀ q, q < k → x ∈ gl (aD l) q → ∀ y ∈ bS names (aD l) p, y ∈ gl (aD l) q) ∧ (∀ y ∈ bS names (aD l) p, y ∈ bS names (aD l) 2) := fun x k hk x1 xn => by
    rcases B8 (aD l) x k with ⟨h1, h2⟩ | ⟨p, p1, p2, p3, p4⟩
    · exact ⟨2, by omega, h1, by omega, by rw [Cf]; exact fq.2 ⟨x1, xn⟩, by omega, fun q hq hx => absurd hx (h2 q hq), fun y hy => hy⟩
    · refine ⟨3 + p, by omega, p2, by omega, by rw [gK (by omega)]; exact p3, by omega, fun q hq hx => ?_, ?_⟩
      · rw [gK (by omega)]
        rcases Nat.lt_trichotomy q p with c | c | c
        · exact h.down c (by omega) hx p3
        · subst c; exact fun y hy => hy
        · exact absurd hx (p4 q c hq)
      · rw [gK (show p < (aD l).length by omega)]
        exact KZ p (by omega)
  refine ⟨h.nm, h.nd, by rw [hlen]; omega, by rw [hlen]; exact hsm, by rw [VR, hlen], by rw [UJ, if_pos rfl], fun b hb => by rw [hall]; exact iw.2 ⟨by omega, by omega⟩, fun i hi => ?_, fun i h0 hi => ?_, fun i j hi hj h1 h2 => ?_, fun b hb => ?_, fun i hi => ?_, fun i hi => ?_⟩
  · rw [hlen] at hi
    obtain ⟨⟨k1, k2⟩, k3⟩ := h.kind h3 hi
    refine ⟨k2, fun e => ?_⟩
    rw [e] at k3
    simp only [List.length_nil] at k3
    rcases k3 with k3 | k3 | k3 | ⟨k, _, _, _, k4, _⟩ | ⟨b, _, _, _, _, k4⟩
    · omega
    · omega
    · omega
    · omega
    · omega
  · rw [hlen] at hi
    rw [UJ, if_neg (by omega)]
    rcases mE hi with rfl | rfl | rfl | ⟨k, hk, rfl⟩ | ⟨b, hb, xE, rfl⟩
    · omega
    · refine ⟨0, by omega, rfl, MO 1 (by omega), fun j hj hj1 hs => ?_⟩
      rw [hlen] at hj
      rw [hone] at hs
      have hs := hs 0 (by simp)
      rcases mE hj with rfl | rfl | rfl | ⟨k, hk, rfl⟩ | ⟨b, hb, xE, rfl⟩
      · exact fun x hx => hx
      · exact absurd rfl hj1
      · rw [Cf] at hs; have := fq.1 hs; omega
      · rw [gK hk] at hs; have := (h.own hk).bd 0 hs; omega
      · rw [jm hb] at hs; have : (0 : Int) = b := by simpa using hs
        omega
    · refine ⟨0, by omega, rfl, MO 2 (by omega), fun j hj hj1 hs => ?_⟩
      rw [hlen] at hj
      obtain ⟨⟨k1, k2⟩, k3⟩ := h.kind h3 hj
      have hl2 := dH (jb _ _) k1 (by rw [Cf] at hs; exact hs)
      have Bo := kP (n := names.length) (by omega)
      have hl2 : (aS names.length [0]).length ≤ (bS names (aD l) j).length := hl2
      rcases k3 with ⟨rfl, _⟩ | ⟨_, k3, _⟩ | ⟨rfl, _⟩ | ⟨k, _, _, _, _, k4⟩ | ⟨b, _, _, _, _, k4⟩
      · exact fun x hx => hx
      · omega
      · exact absurd rfl hj1
      · omega
      · omega
    · rw [if_neg (by omega), if_pos (by omega), show 3 + k - 3 = k by omega]
      have ho := h.own hk
      have hx := own_x ho
      have hxb := ho.bd _ hx
      obtain ⟨p, p1, p2, p2', p3, p4, p5, p6⟩ := least (gi (gl (aD l) k) 0) k (by omega) hxb.1 hxb.2
      have hsub : ∀ y ∈ gl (aD l) k, y ∈ bS names (aD l) p := by
        rcases mE (n := names.length) (show p < 3 + (aD l).length + (names.length - 1) by omega) with rfl | rfl | rfl | ⟨q, hq, rfl⟩ | ⟨b, hb, xE, rfl⟩
        · omega
        · omega
        · exact KZ k hk
        · rw [gK hq] at p3 ⊢
          exact h.down (by omega) hk p3 hx
        · omega
      refine ⟨p, by omega, p2, by rw [gK hk]; exact hsub, fun j hj hj1 hs => ?_⟩
      rw [hlen] at hj
      rw [gK hk] at hs
      have x7 := hs _ hx
      rcases mE hj with rfl | rfl | rfl | ⟨q, hq, rfl⟩ | ⟨b, hb, xE, rfl⟩
      · exact MO p (by omega)
      · rw [hone] at x7; have : gi (gl (aD l) k) 0 = 0 := by simpa using x7
        omega
      · exact p6
      · rw [gK hq] at hs x7 ⊢
        have Uu := h.up hq hk (fun e => hj1 (by rw [e])) hs
        exact p5 q Uu x7
      · exfalso
        rw [jm hb] at hs
        have q1 := dH ho.set.fF (by simp) hs
        have q2 := ho.len
        rw [List.length_singleton] at q1
        omega
    · rw [if_neg (by omega), if_neg (by omega), if_pos (by omega), show 2 + (aD l).length + b - 2 - (aD l).length = b by omega]
      obtain ⟨p, p1, p2, p2', p3, p4, p5, p6⟩ := least (b : Int) (aD l).length (Nat.le_refl _) (by omega) (by omega)
      refine ⟨p, by omega, p2, by rw [jm hb]; intro x hx; have : x = (b : Int) := by simpa using hx
                                  rw [this]; exact p3, fun j hj hj1 hs => ?_⟩
      rw [hlen] at hj
      rw [jm hb] at hs
      have x7 := hs (b : Int) (by simp)
      rcases mE hj with rfl | rfl | rfl | ⟨q, hq, rfl⟩ | ⟨b', hb', hbn', rfl⟩
      · exact MO p (by omega)
      · rw [hone] at x7; have : (b : Int) = 0 := by simpa using x7
        omega
      · exact p6
      · rw [gK hq] at x7 ⊢
        exact p5 q hq x7
      · rw [jm hb'] at x7; have : (b : Int) = b' := by simpa using x7
        exact absurd (by rw [show b' = b by omega]) hj1
  · rw [hlen] at hi hj
    obtain ⟨⟨a1, a2⟩, a3⟩ := h.kind h3 hi
    obtain ⟨⟨c1, c2⟩, c3⟩ := h.kind h3 hj
    have e := k7 a1 c1 fun x => ⟨h1 x, h2 x⟩
    have el := congrArg List.length e
    rcases a3 with ⟨rfl, a4⟩ | ⟨rfl, a4, a5⟩ | ⟨rfl, a4⟩ | ⟨k, hk, rfl, a6, a4, a5⟩ | ⟨b, b1, b2, rfl, a5, a4⟩ <;>
    rcases c3 with ⟨rfl, c4⟩ | ⟨rfl, c4, c5⟩ | ⟨rfl, c4⟩ | ⟨k', hk', rfl, c6, c4, c5⟩ | ⟨b', d1, d2, rfl, c5, c4⟩ <;>
    first | omega | skip
    · rw [a5, c5] at e; injection e with e; omega
    · rw [a6, c6] at e
      rcases Nat.lt_trichotomy k k' with c | c | c
      · exact absurd e (C1 c hk').2
      · rw [c]
      · exact absurd e.symm (C1 c hk).2
    · rw [a5, c5] at e; injection e with e; omega
    · rw [a5, c5] at e; injection e with e; omega
  · by_cases h0 : b = 0
    · subst h0; exact ⟨1, by rw [hlen]; omega, rfl⟩
    · exact ⟨2 + (aD l).length + b, by rw [hlen]; omega, jm (by omega)⟩
  · rw [hlen] at hi
    unfold bT
    rcases mE hi with rfl | rfl | rfl | ⟨k, hk, rfl⟩ | ⟨b, hb, xE, rfl⟩
    · rw [hall, D9, if_neg (by rw [rQ]; omega)]; rfl
    · rfl
    · rw [Cf, D9, if_neg (by have := kP (n := names.length) (by omega); omega)]; rfl
    · have := (h.own hk).len
      rw [gK hk, D9, if_neg (by omega), show 3 + k = k + 1 + 1 + 1 by omega]
      show gs (List.replicate (aD l).length ByteArray.empty ++ (List.range (names.length - 1)).map fun b => gs names (b + 1)) k = _
      simp [gs, List.getElem?_append, hk]
    · obtain ⟨c, rfl⟩ : ∃ c, b = c + 1 := ⟨b - 1, by omega⟩
      rw [jm hb]
      have e1 : D9 names [((c + 1 : Nat) : Int)] = gs names (c + 1) := by
        unfold D9
        rw [if_pos (show [((c + 1 : Nat) : Int)].length = 1 from rfl)]
        show gs names ((c + 1 : Nat) : Int).toNat = _
        rw [Int.toNat_natCast]
      rw [e1, show 2 + (aD l).length + (c + 1) = (aD l).length + c + 1 + 1 + 1 by omega]
      show gs (List.replicate (aD l).length ByteArray.empty ++ (List.range (names.length - 1)).map fun b => gs names (b + 1)) ((aD l).length + c) = _
      simp [gs, show c < names.length - 1 by omega]
  · rw [hlen] at hi
    exact xV (h.kind h3 hi).1.1
end
end
section
end
section
open Go.RowKit Go.Deep
def smK (names : List ByteArray) : Nat → List (ByteArray × Value)
 | 0 => []
 | k + 1 => rM (smK names k) (gs names k) (.bool true)
def tR (names : List ByteArray) (k : Nat) (s : ByteArray) : Bool := (List.range k).any fun j => decide (gs names j = s)
theorem H6 (names : List ByteArray) : ∀ k, yP (smK names k)
 | 0 => List.nodup_nil
 | k + 1 => OW (H6 names k) _ _
theorem Aq (names : List ByteArray) (s : ByteArray) : ∀ k, ((smK names k).lookup s).getD (.bool false) = .bool (tR names k s)
 | 0 => rfl
 | k + 1 => by
  rw [smK, JG]
  have e : tR names (k + 1) s = (tR names k s || decide (gs names k = s)) := by unfold tR; rw [List.range_succ, List.any_append]; simp
  rw [e]
  by_cases h : s = gs names k
  ·rw [if_pos h, decide_eq_true h.symm]; simp
  ·rw [if_neg h, Aq names s k, decide_eq_false (fun q => h q.symm)]; simp
theorem VW (names : List ByteArray) (s : ByteArray) : tR names names.length s = !decide (eR names s < 0) := by
 have h1 : decide (0 ≤ eR names s) = (List.range names.length).any fun j => decide (s = gs names j) := fT _ _
 have h2 : tR names names.length s = (List.range names.length).any fun j => decide (s = gs names j) := by
  unfold tR
  congr 1
  funext j
  by_cases e : gs names j = s
  ·rw [decide_eq_true e, decide_eq_true e.symm]
  ·rw [decide_eq_false e, decide_eq_false fun q => e q.symm]
 rw [h2, ← h1]
 by_cases h : eR names s < 0
 ·rw [decide_eq_true h, decide_eq_false (by omega)]; rfl
 ·rw [decide_eq_false h, decide_eq_true (by omega)]; rfl
theorem Ez (w : World) : (zeroValue 4).run Tryz.prog w = .ok (.bool false) w := by simp [Tryz.zeroValue4]
set_option maxHeartbeats 1000000 in
theorem of1_t (w : World) (S : Nat → Prop) (b8 bt mb : Nat) (np : Option Addr) (nc : Nat) (ns names : List ByteArray) (k : Nat) (h8 : w.cell? ⟨b8, 0, none⟩ = some (.map (some mb))) (hm : SMap w mb (smK names names.length)) (ht : w.cell? ⟨bt, 1, none⟩ = some (.slice np ns.length nc)) (hN : ay S w (.slice np ns.length nc) ns) (hk : k < ns.length) :
  zK 100 #[.pointer (some ⟨b8, 0, none⟩), .pointer (some ⟨bt, 0, none⟩)] #[.int .i64 (k : Int)] (.bool (decide (eR names (gs ns k) < 0))) w := by
 intro m
 show Calls Tryz.prog 100 #[.int .i64 (k : Int), .pointer (some ⟨b8, 0, none⟩), .pointer (some ⟨bt, 0, none⟩)] (w.drewN m) _
 have hd := Up.drewN w m
 obtain ⟨nb, no, rfl, c4⟩ := cC hN hk
 have c1 := hd.cell h8
 have c2 := hd.cell ht
 have c4 := hd.cell c4
 have k1 : (0 : Int) ≤ (k : Int) := Int.natCast_nonneg _
 have k2 : (k : Int) < (ns.length : Int) := Int.ofNat_lt.2 hk
 have hlk : ∀ n, (Instr.lookup 114 (.map (some mb)) (.string (gs ns k)) false).run Tryz.prog ((w.drewN m).drewN n) = .ok (.bool (!decide (eR names (gs ns k) < 0))) ((w.drewN m).drewN n) := fun n => by
  have hm2 : SMap ((w.drewN m).drewN n) mb (smK names names.length) := hm.same rfl
  have h := D3 (P := Tryz.prog) Tryz.underlying114 Tryz.underlying9 (Ez _) hm2 (gs ns k)
  rw [Aq, VW] at h
  exact h
 obtain ⟨W, hW⟩ : ∃ W, W = w.drewN m := ⟨_, rfl⟩
 have HW := aa hW
 rw [← hW] at c1 c2 c4 hlk ⊢
 clear hd h8 hm ht hN hk hW
 generalize gs ns k = s at *
 generalize decide (eR names s < 0) = b at *
 go_enter Tryz.func100, Tryz.ntmps100
 go_wp2_with fail
 go_big_quiet (fail)
 go_wp2_with fail
 go_ret
 exact ⟨by cases b <;> rfl, m + nq, by rw [HW.out, World.drewN_drewN]⟩
end
end Go.Proofs.YtpnmblnahjjmhaaGreat
