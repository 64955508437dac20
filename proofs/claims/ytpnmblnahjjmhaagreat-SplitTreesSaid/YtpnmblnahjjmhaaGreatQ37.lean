/- The splits of the tree of splits are these splits, each once, in order: plain. What the .. -/
import Derived.Test.YtpnmblnahjjmhaaGreatQ1
import Derived.Test.YtpnmblnahjjmhaaGreatQ35
import Derived.Test.YtpnmblnahjjmhaaGreatQ34
set_option maxRecDepth 100000
namespace Go.Proofs.YtpnmblnahjjmhaaGreat
section
section
variable {names : List ByteArray} {t : aA} {S : Nat → List Int} {l : List (List Int)}
theorem SX (h : ∀ j k, j < k → k < names.length → gs names k ≠ gs names j) : names.Nodup :=
 List.pairwise_iff_getElem.2 fun i j hi hj hij e => h i j hij hj (by simp [gs, hi, hj, e])
theorem aQ.PO (h : aQ names t S) : (aZ (fC t)).Perm names := by
 refine (List.perm_ext_iff_of_nodup h.oku.nd (SX h.nd)).2 fun y => ?_
 have h1 := h.leaves _ 0 (Nat.le_refl _) h.n0 y
 constructor
 ·intro hy
  obtain ⟨b, hb, rfl⟩ := h1.1 hy
  have hb := (h.bd 0 h.n0).1 _ hb
  have hb : b < names.length := by omega
  simp [gs, hb]
 ·intro hy
  obtain ⟨b, hb, e⟩ := List.mem_iff_getElem.1 hy
  exact h1.2 ⟨b, h.top b hb, by simp [gs, hb, e]⟩
theorem K1 (ht : aB t = 0) (hp : (mB t.ns).Perm names) (hle : names.length ≤ 32) (dZ : ∀ j k, j < k → k < names.length → gs names k ≠ gs names j) : iz t names := by
 obtain ⟨_, _, hl, _, _⟩ := aH ht
 refine ⟨ht, hle, dZ, by rw [O0, hp.length_eq], fun j hj h0 => ?_⟩
 obtain ⟨b, hb, e⟩ := List.mem_iff_getElem.1 (hp.mem_iff.1 (VQ.2 ⟨j, by omega, rfl, h0⟩))
 exact ⟨b, hb, by rw [← e]; simp [gs, hb]⟩
theorem aQ.SY (h : aQ names t S) (hle : names.length ≤ 32) : iz (gM t) names :=
 K1 (VG h.tree) ((Pj h.tree).trans ((vv h.tree).symm.trans h.PO)) hle h.nd
theorem aQ.MP (h : aQ names t S) (hle : names.length ≤ 32) : iz t names :=
 K1 h.tree ((vv h.tree).symm.trans h.PO) hle h.nd
theorem aQ.splits (h : aQ names t S) (hle : names.length ≤ 32) (ha : ∀ i, i < t.ps.length → (S i).Pairwise (· < ·)) {s : List Int} :
  s ∈ az (gM t) names ↔ vA names.length s ∧ ∃ i, i < t.ps.length ∧ s = aU names.length (S i) := by
 rw [rY (h.SY hle), RJ h.tree]
 constructor
 ·rintro ⟨h1, q, hq, X, hX, bX, hL, rfl⟩
  obtain ⟨u, hu, rfl⟩ := List.mem_map.1 ((jx _).mem_iff.1 hq)
  obtain ⟨i, hi, hi2⟩ := h.parts.1 u hu
  have := B6 h.nd hX (ha i hi) bX (h.bd i hi).1 hL (Ks hi2)
  exact ⟨h1, i, hi, by rw [this]⟩
 ·rintro ⟨h1, i, hi, rfl⟩
  obtain ⟨u, hu, aC⟩ := h.parts.2 i hi
  exact ⟨h1, sortR u, (jx _).mem_iff.2 (List.mem_map.2 ⟨u, hu, rfl⟩), S i, ha i hi, (h.bd i hi).1, Ks aC, rfl⟩
theorem JP (t : aA) (names : List ByteArray) : (az t names).Pairwise s8 := by
 unfold az; split
 ·exact lU _
 ·exact List.Pairwise.nil
theorem Ig (hn : names.length < 4) : az t names = [] := by
 by_cases h : aL t names = 0
 ·rw [List.eq_nil_iff_forall_not_mem]
  intro s hs
  have := ((rY (mW.1 h)).1 hs).1.len
  omega
 ·unfold az; rw [if_neg h]
theorem eD.few (h : eD names l) (hn : names.length < 4) : l = [] := by
 rw [List.eq_nil_iff_forall_not_mem]
 intro s hs
 have := (h.td s hs).len
 omega
theorem SZ (h : eD names l) (h1 : names.length = 1) : aQ names ⟨[-1], [gs names 0]⟩ (fun _ => [0]) := by
  refine ⟨h.nm, h.nd, by simp, by simp, rfl, rfl, fun b hb => ?_, fun i hi => ?_, fun i h0 hi => ?_, fun i j hi hj _ _ => ?_, fun b hb => ?_, fun i hi => ?_, fun i hi => by simp⟩
  · have : b = 0 := by omega
    subst this; simp
  · exact ⟨fun x hx => by have : x = 0 := by simpa using hx
                          omega, by simp⟩
  · exact absurd hi (by simp; omega)
  · simp at hi hj; omega
  · have : b = 0 := by omega
    subst this; exact ⟨0, by simp, rfl⟩
  · have : i = 0 := by simp at hi; omega
    subst this; rfl
def gO (i : Nat) : List Int := if i = 0 then [0, 1] else if i = 1 then [0] else [1]
theorem Au (h : eD names l) (h2 : names.length = 2) : aQ names ⟨[-1, 0, 0], [ByteArray.empty, gs names 0, gs names 1]⟩ gO := by
  have c3 : ∀ i, i < ([-1, 0, 0] : List Int).length → i = 0 ∨ i = 1 ∨ i = 2 := fun i hi => by simp at hi; omega
  refine ⟨h.nm, h.nd, by simp, by simp, rfl, rfl, fun b hb => ?_, fun i hi => ?_, fun i h0 hi => ?_, fun i j hi hj hij hji => ?_, fun b hb => ?_, fun i hi => ?_, fun i hi => ?_⟩
  · have : b = 0 ∨ b = 1 := by omega
    rcases this with rfl | rfl <;> simp [gO]
  · rcases c3 i hi with rfl | rfl | rfl
    · exact ⟨fun x hx => by have : x = 0 ∨ x = 1 := by simpa [gO] using hx
                            omega, by simp [gO]⟩
    · exact ⟨fun x hx => by have : x = 0 := by simpa [gO] using hx
                            omega, by simp [gO]⟩
    · exact ⟨fun x hx => by have : x = 1 := by simpa [gO] using hx
                            omega, by simp [gO]⟩
  · have : i = 1 ∨ i = 2 := by have := c3 i hi; omega
    refine ⟨0, by omega, by rcases this with rfl | rfl <;> rfl, fun x hx => ?_, fun j hj hji hs => ?_⟩
    · rcases this with rfl | rfl
      · have : x = 0 := by simpa [gO] using hx
        subst this; simp [gO]
      · have : x = 1 := by simpa [gO] using hx
        subst this; simp [gO]
    · rcases c3 j hj with rfl | rfl | rfl
      · exact fun x hx => hx
      · have : i = 2 := by omega
        subst this
        have := hs 1 (by simp [gO])
        simp [gO] at this
      · have : i = 1 := by omega
        subst this
        have := hs 0 (by simp [gO])
        simp [gO] at this
  · rcases c3 i hi with rfl | rfl | rfl <;> rcases c3 j hj with rfl | rfl | rfl <;> first | rfl | (simp [gO] at hij hji)
  · have : b = 0 ∨ b = 1 := by omega
    rcases this with rfl | rfl
    · exact ⟨1, by simp, rfl⟩
    · exact ⟨2, by simp, rfl⟩
  · rcases c3 i hi with rfl | rfl | rfl <;> rfl
  · rcases c3 i hi with rfl | rfl | rfl <;> simp [gO]
theorem MQ (h : eD names l) (h3 : 3 ≤ names.length) (hsm : 3 + (aD l).length + (names.length - 1) ≤ 64) : az (gM (bT names (aD l))) names = p9 l := by
 have hS := vG h h3 hsm
 have hlen : (bT names (aD l)).ps.length = 3 + (aD l).length + (names.length - 1) := Ho
 refine CZ (JP _ _) (lU l) fun s => ?_
 rw [hS.splits h.le (fun i hi => (h.kind h3 (by omega)).1.1), rV]
 constructor
 ·rintro ⟨h1, i, hi, rfl⟩
  have h2 := h1.len
  obtain ⟨⟨k1, k2⟩, k3⟩ := h.kind h3 (i := i) (by omega)
  rcases k3 with ⟨rfl, k4⟩ | ⟨rfl, k4, k5⟩ | ⟨rfl, k4⟩ | ⟨k, hk, rfl, k6, k4, k5⟩ | ⟨b, b1, b2, rfl, k5, k4⟩
  ·exfalso
   have h4 : aU names.length (bS names (aD l) 0) = [] := by
    rw [show bS names (aD l) 0 = allI names.length from rfl]
    unfold aU
    rw [if_pos (List.contains_iff_mem.2 (iw.2 (by omega))), List.eq_nil_iff_forall_not_mem]
    intro x hx
    obtain ⟨x0, xn, hx⟩ := iN.1 hx
    exact hx (iw.2 ⟨x0, xn⟩)
   rw [h4] at h2; simp at h2
  ·exfalso
   rw [k5] at h2
   have h4 : aU names.length [0] = aS names.length [0] := rfl
   rw [h4] at h2
   have := kP (n := names.length) (by omega)
   omega
  ·exfalso
   have h4 : aU names.length (bS names (aD l) 2) = bS names (aD l) 2 := by
    unfold aU
    rw [if_neg]
    intro e
    have := fq.1 (List.contains_iff_mem.1 e)
    omega
   rw [h4] at h2
   omega
  ·have ho := h.own hk
   have h4 : aU names.length (bS names (aD l) (3 + k)) = gl (aD l) k := by
    rw [k6]
    unfold aU
    rw [if_neg]
    intro e
    have := ho.bd _ (List.contains_iff_mem.1 e)
    omega
   rw [h4]
   exact kN.1 (iC hk)
  ·exfalso
   have h4 : aU names.length (bS names (aD l) (2 + (aD l).length + b)) = [(b : Int)] := by
    rw [k5]
    unfold aU
    rw [if_neg]
    intro e
    have : (0 : Int) = b := by simpa using List.contains_iff_mem.1 e
    omega
   rw [h4] at h2; simp at h2
 ·intro hs
  refine ⟨h.td s hs, ?_⟩
  obtain ⟨k, hk, rfl⟩ := th (kN.2 hs)
  refine ⟨3 + k, by omega, ?_⟩
  rw [gK hk]
  unfold aU
  rw [if_neg]
  intro e
  have := (h.own hk).bd _ (List.contains_iff_mem.1 e)
  omega
theorem Ih (h : eD names l) (hsm : 3 + (aD l).length + (names.length - 1) ≤ 64) : iz (qa names l) names ∧ az (qa names l) names = p9 l := by
 unfold qa
 have hp := h.pos
 by_cases h1 : names.length = 1
 ·rw [if_pos h1]
  refine ⟨(SZ h h1).MP h.le, ?_⟩
  rw [Ig (by omega), h.few (by omega)]; rfl
 rw [if_neg h1]
 by_cases h2 : names.length = 2
 ·rw [if_pos h2]
  refine ⟨(Au h h2).SY h.le, ?_⟩
  rw [Ig (by omega), h.few (by omega)]; rfl
 rw [if_neg h2]
 exact ⟨(vG h (by omega) hsm).SY h.le, MQ h (by omega) hsm⟩
end
end
section
def nV (n : Int) (s : List Int) (i : Nat) : Bool := decide (gi s i = 0) || decide (n ≤ gi s i)
theorem MR (n : Int) (s : List Int) : aF n s = if n < 1 ∨ 32 < n then 2 else if dN s ≠ 0 then dN s else if (List.range s.length).any (nV n s) then 2 else if (s.length : Int) < 2 ∨ n - 2 < s.length then 8 else 0 := by
 unfold aF
 by_cases c1 : n < 1 ∨ 32 < n
 ·rw [if_pos c1, if_pos c1]
 rw [if_neg c1, if_neg c1]
 by_cases c2 : dN s = 0
 ·have hs := eX.1 c2
  have hc : ¬ (dN s ≠ 0) := fun e => e c2
  rw [if_neg hc, if_neg hc]
  have key : (0 < s.length ∧ (gi s 0 = 0 ∨ n ≤ gi s (s.length - 1))) ↔ (List.range s.length).any (nV n s) = true := by
   rw [List.any_eq_true]
   constructor
   ·rintro ⟨h0, h | h⟩
    ·exact ⟨0, List.mem_range.2 h0, by unfold nV; rw [decide_eq_true h]; rfl⟩
    ·exact ⟨s.length - 1, List.mem_range.2 (by omega), by unfold nV; rw [decide_eq_true h]; simp⟩
   ·rintro ⟨i, hi, e⟩
    have hi := List.mem_range.1 hi
    have hb := Hh hs (gi_in hi)
    have h63 := hs.bd _ (gi_in (show 0 < s.length by omega))
    unfold nV at e
    rw [Bool.or_eq_true, decide_eq_true_eq, decide_eq_true_eq] at e
    refine ⟨by omega, ?_⟩
    rcases e with e | e
    ·exact .inl (by omega)
    ·exact .inr (by omega)
  by_cases c3 : 0 < s.length ∧ (gi s 0 = 0 ∨ n ≤ gi s (s.length - 1))
  ·rw [if_pos c3, if_pos (key.1 c3)]
  ·rw [if_neg c3, if_neg (fun e => c3 (key.2 e))]
 ·rw [if_pos c2, if_pos c2]
def eA (a b : List Int) : Bool := a.all fun x => b.contains x
theorem jI {a b : List Int} : eA a b = true ↔ ∀ x ∈ a, x ∈ b := by
 unfold eA
 rw [List.all_eq_true]
 exact ⟨fun h x hx => List.contains_iff_mem.1 (h x hx), fun h x hx => List.contains_iff_mem.2 (h x hx)⟩
theorem S1 {a b : List Int} (ha : cz a) (hb : cz b) : (decide ((a.filter (fun x => b.contains x)).length = 0) || (eA a b || eA b a)) = dU a b := by
 rw [Bool.eq_iff_iff, s6 ha hb, Bool.or_eq_true, Bool.or_eq_true, decide_eq_true_eq, jI, jI]
 have : (a.filter (fun x => b.contains x)).length = 0 ↔ ∀ x ∈ a, x ∉ b := by
  rw [List.length_eq_zero_iff, List.filter_eq_nil_iff]
  exact ⟨fun h x hx hy => h x hx (List.contains_iff_mem.2 hy), fun h x hx e => h x hx (List.contains_iff_mem.1 e)⟩
 rw [this]
end
section
open Go.RowKit Go.Deep
set_option maxHeartbeats 400000 in
theorem PR (g : Nat) (lb : Array Value) (eg : ∀ args w, (callFunc g args).run Tryz.prog w = .ok (.enter g args) w) (S : Nat → Prop) (w : World) (v : Value) (n : Nat) (f : Nat → Value) (p : Nat → Bool)
  (h : av S w v n f) (hn : n ≤ 1000000) (hp : ∀ k, k < n → zK g lb #[f k] (.bool (p k)) w) :
  Calls Tryz.prog 104 #[v, .func (.func g) #[] lb] w fun e w' => e = .returned (.int .i64 (cE p n)) ∧ ∃ q, w' = w.drewN q := by
 obtain ⟨q, cap, rfl, hcap, H⟩ := h.open
 have HP := aa hp
 clear h hp
 go_enter Tryz.func104, Tryz.ntmps104
 go_wp2_with fail
 go_loopw [5, 8] (fun _ i wr => ∃ k : Nat, k ≤ n ∧ i = .int .i64 k ∧ Hid (∀ j, j < k → p j = false) ∧ Hid (∃ m, wr = w.drewN m)) (fun _ i _ => n - (intOf i).toNat)
 case atStart => exact ⟨0, Nat.zero_le _, rfl, fun j hj => absurd hj (Nat.not_lt_zero _), 0, rfl⟩
 case round =>
  obtain ⟨k, hk, rfl, hd, hm⟩ := hrel
  obtain ⟨m, rfl⟩ := hm.out
  clear hm
  by_cases hlt : k < n
  ·obtain ⟨b, off, rfl, hc⟩ := H k hlt
   have hc := (Up.drewN w m).cell hc
   clear H
   have hpk := HP.out k hlt
   unfold zK at hpk
   have B9 := aa (hpk m)
   clear hpk HP
   generalize hv : p k = pk at *
   have HV := aa hv
   clear hv
   cases pk
   ·go_wp2_with fail
    refine B9.out.mono ?_
    rintro e w' ⟨rfl, m2, rfl⟩
    go_wp2_with fail
    go_roundw
    case rel => exact ⟨k + 1, by omega, by go_num, fun j hj => if e : j = k then by subst e; exact HV.out else hd.out j (by omega), m2, rfl⟩
    case measure => simp [intOf]; omega
   ·go_wp2_with fail
    refine B9.out.mono ?_
    rintro e w' ⟨rfl, m2, rfl⟩
    go_wp2_with fail
    go_ret
    exact ⟨aI (fS hlt hd.out HV.out).symm, m2, rfl⟩
  ·clear H
   go_wp2_with fail
   go_ret
   exact ⟨aI (dP fun j hj => hd.out j (by omega)).symm, m, rfl⟩
set_option maxHeartbeats 400000 in
theorem vI (g : Nat) (lb : Array Value) (eg : ∀ args w, (callFunc g args).run Tryz.prog w = .ok (.enter g args) w) (S : Nat → Prop) (w : World) (v : Value) (n : Nat) (f : Nat → Value) (p : Nat → Bool)
  (h : av S w v n f) (hn : n ≤ 1000000) (hp : ∀ k, k < n → zK g lb #[f k] (.bool (p k)) w) :
  Calls Tryz.prog 25 #[v, .func (.func g) #[] lb] w fun e w' => e = .returned (.bool ((List.range n).any p)) ∧ ∃ q, w' = w.drewN q := by
 have hx := fT p n
 have HX := aa hx
 have HI := aa (PR g lb eg S w v n f p h hn hp)
 obtain ⟨q, cap, rfl, -, -⟩ := av.open h
 clear hx hp h eg
 go_enter Tryz.func25, Tryz.ntmps25
 go_wp2_with fail
 refine HI.out.mono ?_
 rintro e w' ⟨rfl, m, rfl⟩
 go_wp2_with fail
 go_ret
 exact ⟨aO (by rw [← HX.out]), m, rfl⟩
end
end Go.Proofs.YtpnmblnahjjmhaaGreat
