/- The splits of the tree of splits are these splits, each once, in order: plain. What the reference implementations of layers 4 and 32 compute: plain. slices.IndexFunc and ContainsFunc at lists with a function that draws. -/
import Derived.Test.YtpnmblnahjjmhaaGreatQ1
import Derived.Test.YtpnmblnahjjmhaaGreatQ34
import Derived.Test.YtpnmblnahjjmhaaGreatQ33
namespace Go.Proofs.YtpnmblnahjjmhaaGreat
set_option maxRecDepth 100000
section
section
variable {names : List ByteArray} {t : aJ} {S : Nat → List Int} {l : List (List Int)}
theorem SU (h : ∀ j k, j < k → k < names.length → gs names k ≠ gs names j) : names.Nodup :=
 List.pairwise_iff_getElem.2 fun i j hi hj hij e => h i j hij hj (by simp [gs, hi, hj, e])
theorem bq.PU (h : bq names t S) : (bH (gh t)).Perm names := by
 refine (List.perm_ext_iff_of_nodup h.oku.nd (SU h.nd)).2 fun y => ?_
 have h1 := h.leaves _ 0 (Nat.le_refl _) h.n0 y
 constructor
 ·intro hy
  obtain ⟨b, hb, rfl⟩ := h1.1 hy
  have hb := (h.bd 0 h.n0).1 _ hb
  have hb : b < names.length := by omega
  simp [gs, hb]
 ·intro hy
  obtain ⟨b, hb, e⟩ := List.mem_iff_getElem.1 hy
  exact h1.2 ⟨b, h.top b hb, by simp [gs, hb, e]⟩
theorem K4 (ht : aK t = 0) (hp : (nw t.ns).Perm names) (hle : names.length ≤ 32) (eZ : ∀ j k, j < k → k < names.length → gs names k ≠ gs names j) : iU t names := by
 obtain ⟨_, _, hl, _, _⟩ := aP ht
 refine ⟨ht, hle, eZ, by rw [O2, hp.length_eq], fun j hj h0 => ?_⟩
 obtain ⟨b, hb, e⟩ := List.mem_iff_getElem.1 (hp.mem_iff.1 (VP.2 ⟨j, by omega, rfl, h0⟩))
 exact ⟨b, hb, by rw [← e]; simp [gs, hb]⟩
theorem bq.SV (h : bq names t S) (hle : names.length ≤ 32) : iU (iy t) names :=
 K4 (VF h.tree) ((Pm h.tree).trans ((vO h.tree).symm.trans h.PU)) hle h.nd
theorem bq.MS (h : bq names t S) (hle : names.length ≤ 32) : iU t names :=
 K4 h.tree ((vO h.tree).symm.trans h.PU) hle h.nd
theorem bq.splits (h : bq names t S) (hle : names.length ≤ 32) (ha : ∀ i, i < t.ps.length → (S i).Pairwise (· < ·)) {s : List Int} :
  s ∈ aI (iy t) names ↔ vR names.length s ∧ ∃ i, i < t.ps.length ∧ s = bC names.length (S i) := by
 rw [sM (h.SV hle), RL h.tree]
 constructor
 ·rintro ⟨h1, q, hq, X, hX, bX, hL, rfl⟩
  obtain ⟨u, hu, rfl⟩ := List.mem_map.1 ((jY _).mem_iff.1 hq)
  obtain ⟨i, hi, hi2⟩ := h.parts.1 u hu
  have := Cg h.nd hX (ha i hi) bX (h.bd i hi).1 hL (Kt hi2)
  exact ⟨h1, i, hi, by rw [this]⟩
 ·rintro ⟨h1, i, hi, rfl⟩
  obtain ⟨u, hu, aL⟩ := h.parts.2 i hi
  exact ⟨h1, sortR u, (jY _).mem_iff.2 (List.mem_map.2 ⟨u, hu, rfl⟩), S i, ha i hi, (h.bd i hi).1, Kt aL, rfl⟩
theorem JO (t : aJ) (names : List ByteArray) : (aI t names).Pairwise tL := by
 unfold aI; split
 ·exact mS _
 ·exact List.Pairwise.nil
theorem Ij (hn : names.length < 4) : aI t names = [] := by
 by_cases h : aT t names = 0
 ·rw [List.eq_nil_iff_forall_not_mem]
  intro s hs
  have := ((sM (nT.1 h)).1 hs).1.len
  omega
 ·unfold aI; rw [if_neg h]
theorem fo.UR (h : fo names l) (hn : names.length < 4) : l = [] := by
 rw [List.eq_nil_iff_forall_not_mem]
 intro s hs
 have := (h.tN s hs).len
 omega
theorem SX (h : fo names l) (h1 : names.length = 1) : bq names ⟨[-1], [gs names 0]⟩ (fun _ => [0]) := by
  refine ⟨h.nm, h.nd, by simp, by simp, rfl, rfl, fun b hb => ?_, fun i hi => ?_, fun i h0 hi => ?_, fun i j hi hj _ _ => ?_, fun b hb => ?_, fun i hi => ?_, fun i hi => by simp⟩
  · have : b = 0 := by omega
    subst this; simp
  · exact ⟨fun x hx => by have : x = 0 := by simpa using hx
                          omega, by simp⟩
  · exact absurd hi (by simp; omega)
  · simp at hi hj; omega
  · have : b = 0 := by omega
    subst this; exact ⟨0, by simp, rfl⟩
  · have : i = 0 := by simp at hi; omega
    subst this; rfl
def iA (i : Nat) : List Int := if i = 0 then [0, 1] else if i = 1 then [0] else [1]
theorem AO (h : fo names l) (h2 : names.length = 2) : bq names ⟨[-1, 0, 0], [ByteArray.empty, gs names 0, gs names 1]⟩ iA := by
  have c3 : ∀ i, i < ([-1, 0, 0] : List Int).length → i = 0 ∨ i = 1 ∨ i = 2 := fun i hi => by simp at hi; omega
  refine ⟨h.nm, h.nd, by simp, by simp, rfl, rfl, fun b hb => ?_, fun i hi => ?_, fun i h0 hi => ?_, fun i j hi hj hij hji => ?_, fun b hb => ?_, fun i hi => ?_, fun i hi => ?_⟩
  · have : b = 0 ∨ b = 1 := by omega
    rcases this with rfl | rfl <;> simp [iA]
  · rcases c3 i hi with rfl | rfl | rfl
    · exact ⟨fun x hx => by have : x = 0 ∨ x = 1 := by simpa [iA] using hx
                            omega, by simp [iA]⟩
    · exact ⟨fun x hx => by have : x = 0 := by simpa [iA] using hx
                            omega, by simp [iA]⟩
    · exact ⟨fun x hx => by have : x = 1 := by simpa [iA] using hx
                            omega, by simp [iA]⟩
  · have : i = 1 ∨ i = 2 := by have := c3 i hi; omega
    refine ⟨0, by omega, by rcases this with rfl | rfl <;> rfl, fun x hx => ?_, fun j hj hji hs => ?_⟩
    · rcases this with rfl | rfl
      · have : x = 0 := by simpa [iA] using hx
        subst this; simp [iA]
      · have : x = 1 := by simpa [iA] using hx
        subst this; simp [iA]
    · rcases c3 j hj with rfl | rfl | rfl
      · exact fun x hx => hx
      · have : i = 2 := by omega
        subst this
        have := hs 1 (by simp [iA])
        simp [iA] at this
      · have : i = 1 := by omega
        subst this
        have := hs 0 (by simp [iA])
        simp [iA] at this
  · rcases c3 i hi with rfl | rfl | rfl <;> rcases c3 j hj with rfl | rfl | rfl <;> first | rfl | (simp [iA] at hij hji)
  · have : b = 0 ∨ b = 1 := by omega
    rcases this with rfl | rfl
    · exact ⟨1, by simp, rfl⟩
    · exact ⟨2, by simp, rfl⟩
  · rcases c3 i hi with rfl | rfl | rfl <;> rfl
  · rcases c3 i hi with rfl | rfl | rfl <;> simp [iA]
theorem MT (h : fo names l) (h3 : 3 ≤ names.length) (mD : 3 + (aM l).length + (names.length - 1) ≤ 64) : aI (iy (bT names (aM l))) names = qI l := by
 have hS := vX h h3 mD
 have hlen : (bT names (aM l)).ps.length = 3 + (aM l).length + (names.length - 1) := Hq
 refine C9 (JO _ _) (mS l) fun s => ?_
 rw [hS.splits h.le (fun i hi => (h.kind h3 (by omega)).1.1), sJ]
 constructor
 ·rintro ⟨h1, i, hi, rfl⟩
  have h2 := h1.len
  obtain ⟨⟨k1, k2⟩, k3⟩ := h.kind h3 (i := i) (by omega)
  rcases k3 with ⟨rfl, k4⟩ | ⟨rfl, k4, k5⟩ | ⟨rfl, k4⟩ | ⟨k, hk, rfl, k6, k4, k5⟩ | ⟨b, b1, b2, rfl, k5, k4⟩
  ·exfalso
   have h4 : bC names.length (bS names (aM l) 0) = [] := by
    rw [show bS names (aM l) 0 = allI names.length from rfl]
    unfold bC
    rw [if_pos (List.contains_iff_mem.2 (iS.2 (by omega))), List.eq_nil_iff_forall_not_mem]
    intro x hx
    obtain ⟨x0, xn, hx⟩ := jm.1 hx
    exact hx (iS.2 ⟨x0, xn⟩)
   rw [h4] at h2; simp at h2
  ·exfalso
   rw [k5] at h2
   have h4 : bC names.length [0] = bw names.length [0] := rfl
   rw [h4] at h2
   have := lQ (n := names.length) (by omega)
   omega
  ·exfalso
   have h4 : bC names.length (bS names (aM l) 2) = bS names (aM l) 2 := by
    unfold bC
    rw [if_neg]
    intro e
    have := fV.1 (List.contains_iff_mem.1 e)
    omega
   rw [h4] at h2
   omega
  ·have ho := h.own hk
   have h4 : bC names.length (bS names (aM l) (3 + k)) = gl (aM l) k := by
    rw [k6]
    unfold bC
    rw [if_neg]
    intro e
    have := ho.bd _ (List.contains_iff_mem.1 e)
    omega
   rw [h4]
   exact lN.1 (iX hk)
  ·exfalso
   have h4 : bC names.length (bS names (aM l) (2 + (aM l).length + b)) = [(b : Int)] := by
    rw [k5]
    unfold bC
    rw [if_neg]
    intro e
    have : (0 : Int) = b := by simpa using List.contains_iff_mem.1 e
    omega
   rw [h4] at h2; simp at h2
 ·intro hs
  refine ⟨h.tN s hs, ?_⟩
  obtain ⟨k, hk, rfl⟩ := tO (lN.2 hs)
  refine ⟨3 + k, by omega, ?_⟩
  rw [iu hk]
  unfold bC
  rw [if_neg]
  intro e
  have := (h.own hk).bd _ (List.contains_iff_mem.1 e)
  omega
theorem Ik (h : fo names l) (mD : 3 + (aM l).length + (names.length - 1) ≤ 64) : iU (qK names l) names ∧ aI (qK names l) names = qI l := by
 unfold qK
 have hp := h.pos
 by_cases h1 : names.length = 1
 ·rw [if_pos h1]
  refine ⟨(SX h h1).MS h.le, ?_⟩
  rw [Ij (by omega), h.UR (by omega)]; rfl
 rw [if_neg h1]
 by_cases h2 : names.length = 2
 ·rw [if_pos h2]
  refine ⟨(AO h h2).SV h.le, ?_⟩
  rw [Ij (by omega), h.UR (by omega)]; rfl
 rw [if_neg h2]
 exact ⟨(vX h (by omega) mD).SV h.le, MT h (by omega) mD⟩
end
end
section
def oR (n : Int) (s : List Int) (i : Nat) : Bool := decide (gi s i = 0) || decide (n ≤ gi s i)
theorem MU (n : Int) (s : List Int) : aN n s = if n < 1 ∨ 32 < n then 2 else if eL s ≠ 0 then eL s else if (List.range s.length).any (oR n s) then 2 else if (s.length : Int) < 2 ∨ n - 2 < s.length then 8 else 0 := by
 unfold aN
 by_cases c1 : n < 1 ∨ 32 < n
 ·rw [if_pos c1, if_pos c1]
 rw [if_neg c1, if_neg c1]
 by_cases c2 : eL s = 0
 ·have hs := fL.1 c2
  have hc : ¬ (eL s ≠ 0) := fun e => e c2
  rw [if_neg hc, if_neg hc]
  have key : (0 < s.length ∧ (gi s 0 = 0 ∨ n ≤ gi s (s.length - 1))) ↔ (List.range s.length).any (oR n s) = true := by
   rw [List.any_eq_true]
   constructor
   ·rintro ⟨h0, h | h⟩
    ·exact ⟨0, List.mem_range.2 h0, by unfold oR; rw [decide_eq_true h]; rfl⟩
    ·exact ⟨s.length - 1, List.mem_range.2 (by omega), by unfold oR; rw [decide_eq_true h]; simp⟩
   ·rintro ⟨i, hi, e⟩
    have hi := List.mem_range.1 hi
    have hb := Hj hs (ng hi)
    have h63 := hs.bd _ (ng (show 0 < s.length by omega))
    unfold oR at e
    rw [Bool.or_eq_true, decide_eq_true_eq, decide_eq_true_eq] at e
    refine ⟨by omega, ?_⟩
    rcases e with e | e
    ·exact .inl (by omega)
    ·exact .inr (by omega)
  by_cases c3 : 0 < s.length ∧ (gi s 0 = 0 ∨ n ≤ gi s (s.length - 1))
  ·rw [if_pos c3, if_pos (key.1 c3)]
  ·rw [if_neg c3, if_neg (fun e => c3 (key.2 e))]
 ·rw [if_pos c2, if_pos c2]
def fh (a b : List Int) : Bool := a.all fun x => b.contains x
theorem kA {a b : List Int} : fh a b = true ↔ ∀ x ∈ a, x ∈ b := by
 unfold fh
 rw [List.all_eq_true]
 exact ⟨fun h x hx => List.contains_iff_mem.1 (h x hx), fun h x hx => List.contains_iff_mem.2 (h x hx)⟩
theorem SY {a b : List Int} (ha : cZ a) (hb : cZ b) : (decide ((a.filter (fun x => b.contains x)).length = 0) || (fh a b || fh b a)) = eU a b := by
 rw [Bool.eq_iff_iff, tJ ha hb, Bool.or_eq_true, Bool.or_eq_true, decide_eq_true_eq, kA, kA]
 have : (a.filter (fun x => b.contains x)).length = 0 ↔ ∀ x ∈ a, x ∉ b := by
  rw [List.length_eq_zero_iff, List.filter_eq_nil_iff]
  exact ⟨fun h x hx hy => h x hx (List.contains_iff_mem.2 hy), fun h x hx e => h x hx (List.contains_iff_mem.1 e)⟩
 rw [this]
end
section
open Go.RowKit Go.Deep
set_option maxHeartbeats 400000 in
theorem PV (g : Nat) (lb : Array Value) (eg : ∀ args w, (callFunc g args).run Tryz.prog w = .ok (.enter g args) w) (S : Nat → Prop) (w : World) (v : Value) (n : Nat) (f : Nat → Value) (p : Nat → Bool)
  (h : aC S w v n f) (hn : n ≤ 1000000) (hp : ∀ k, k < n → z7 g lb #[f k] (.bool (p k)) w) :
  Calls Tryz.prog 104 #[v, .func (.func g) #[] lb] w fun e w' => e = .returned (.int .i64 (dm p n)) ∧ ∃ q, w' = w.drewN q := by
 obtain ⟨q, cap, rfl, hcap, H⟩ := h.open
 have HP := ag hp
 clear h hp
 aq Tryz.func104, Tryz.ntmps104
 aa fail
 aV [5, 8] (fun _ i wr => ∃ k : Nat, k ≤ n ∧ i = .int .i64 k ∧ Hid (∀ j, j < k → p j = false) ∧ Hid (∃ m, wr = w.drewN m)) (fun _ i _ => n - (intOf i).toNat)
 case atStart => exact ⟨0, Nat.zero_le _, rfl, fun j hj => absurd hj (Nat.not_lt_zero _), 0, rfl⟩
 case round =>
  obtain ⟨k, hk, rfl, hd, hm⟩ := bE
  obtain ⟨m, rfl⟩ := hm.out
  clear hm
  by_cases hlt : k < n
  ·obtain ⟨b, off, rfl, hc⟩ := H k hlt
   have hc := (Up.drewN w m).cell hc
   clear H
   have hpk := HP.out k hlt
   unfold z7 at hpk
   have Ck := ag (hpk m)
   clear hpk HP
   generalize hv : p k = pk at *
   have HV := ag hv
   clear hv
   cases pk
   ·aa fail
    refine Ck.out.mono ?_
    rintro e w' ⟨rfl, m2, rfl⟩
    aa fail
    aF
    case rel => exact ⟨k + 1, by omega, by aH, fun j hj => if e : j = k then by subst e; exact HV.out else hd.out j (by omega), m2, rfl⟩
    case measure => simp [intOf]; omega
   ·aa fail
    refine Ck.out.mono ?_
    rintro e w' ⟨rfl, m2, rfl⟩
    aa fail
    ax
    exact ⟨aQ (gF hlt hd.out HV.out).symm, m2, rfl⟩
  ·clear H
   aa fail
   ax
   exact ⟨aQ (eN fun j hj => hd.out j (by omega)).symm, m, rfl⟩
set_option maxHeartbeats 400000 in
theorem vZ (g : Nat) (lb : Array Value) (eg : ∀ args w, (callFunc g args).run Tryz.prog w = .ok (.enter g args) w) (S : Nat → Prop) (w : World) (v : Value) (n : Nat) (f : Nat → Value) (p : Nat → Bool)
  (h : aC S w v n f) (hn : n ≤ 1000000) (hp : ∀ k, k < n → z7 g lb #[f k] (.bool (p k)) w) :
  Calls Tryz.prog 25 #[v, .func (.func g) #[] lb] w fun e w' => e = .returned (.bool ((List.range n).any p)) ∧ ∃ q, w' = w.drewN q := by
 have hx := gG p n
 have HX := ag hx
 have HI := ag (PV g lb eg S w v n f p h hn hp)
 obtain ⟨q, cap, rfl, -, -⟩ := aC.open h
 clear hx hp h eg
 aq Tryz.func25, Tryz.ntmps25
 aa fail
 refine HI.out.mono ?_
 rintro e w' ⟨rfl, m, rfl⟩
 aa fail
 ax
 exact ⟨aZ (by rw [← HX.out]), m, rfl⟩
end
end Go.Proofs.YtpnmblnahjjmhaaGreat
