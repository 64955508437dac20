/- The contracts of layer 31's reference's text and Print. The reference's reader of texts, .. -/
import Derived.Test.YthgabkgmkolobaaGreatQ1
import Derived.Test.YthgabkgmkolobaaGreatQ21
import Derived.Test.YthgabkgmkolobaaGreatQ26
import Derived.Test.YthgabkgmkolobaaGreatQ34
set_option maxRecDepth 100000
namespace Go.Proofs.YthgabkgmkolobaaGreat
section
open Go.RowKit Go.Deep
def bL (l : List UInt8) : ByteArray := ⟨l.toArray⟩
theorem LB (l : List UInt8) : (bL l).data.toList = l := rfl
theorem Wo (s : ByteArray) : bL s.data.toList = s := eL (by rw [LB])
theorem yQ (a b : List UInt8) : bL a ++ bL b = bL (a ++ b) := eL (by rw [ByteArray.data_append, Array.toList_append]; rfl)
def uZ (ks : List RT) (j : Nat) : List UInt8 := if j = 0 then [40] else fV (ks.take j)
theorem LC {ks : List RT} (h : 0 < ks.length) : uZ ks 0 ++ txR (gr ks 0) = uZ ks (0 + 1) := by
 cases ks with
 | nil => simp at h
 | cons k ks =>
  show [40] ++ txR k = fV [k]
  rw [fV, txRs, List.append_nil]; rfl
theorem I3 {ks : List RT} {j : Nat} (h : j < ks.length) (h0 : j ≠ 0) : uZ ks j ++ [44] ++ txR (gr ks j) = uZ ks (j + 1) := by
 have hg : gr ks j = ks[j] := by simp [gr, h]
 unfold uZ
 rw [if_neg h0, if_neg (by omega), List.take_succ_eq_append_getElem h, zm, hg, List.length_take, if_neg (by omega)]
 simp
theorem Wp {ks : List RT} (nm : ByteArray) (h : ks ≠ []) : uZ ks ks.length ++ [41] = txR (.node nm ks) := by
 unfold uZ
 rw [if_neg (fun e => h (List.eq_nil_of_length_eq_zero e)), List.take_length, sg nm h]
theorem zw (l : List UInt8) : (bL l).size = l.length := by rw [← size_data, LB]
theorem LD {ks : List RT} (nm : ByteArray) (h : ks ≠ []) (j : Nat) : (uZ ks j).length + 1 ≤ (txR (.node nm ks)).length := by
 rw [sg nm h, List.length_append, List.length_singleton]
 unfold uZ
 split
 ·cases ks with
  | nil => exact absurd rfl h
  | cons k ks => rw [fV]; simp
 ·have := yA ks j; omega
theorem LF {ks : List RT} (nm : ByteArray) {j : Nat} (h : j < ks.length) : (txR (gr ks j)).length + 1 ≤ (txR (.node nm ks)).length := by
 have h0 : ks ≠ [] := fun e => by rw [e] at h; simp at h
 have h1 := LD nm h0 (j + 1)
 by_cases e : j = 0
 ·subst e
  rw [← LC h, List.length_append] at h1; omega
 ·rw [← I3 h e, List.length_append] at h1; omega
set_option maxHeartbeats 2000000 in
theorem P5 (S : Nat → Prop) : ∀ (d : Nat) (r : RT), aH r ≤ d → d ≤ 1000000 → (txR r).length ≤ 5000000 → ∀ (w : World) (v : Value), RAt S w r v → Calls Tryz.prog 208 #[v] w fun e w' => e = .returned (.string (bL (txR r))) ∧ w = w' := by
 intro d
 induction d with
 | zero => intro r hr; have := gD r; omega
 | succ d ih =>
 intro r hr hd htl w v hv
 cases r with
 | node nm ks =>
  obtain ⟨b, kp, kc, vs, rfl, hS, c0, c1, hk, hs⟩ := hv.open
  simp only [RT.nm, RT.kids] at c0 c1 hk hs
  have fT := nN ks
  rw [aH] at hr
  have js : Hid (∀ j, j < ks.length → Calls Tryz.prog 208 #[vN vs j] w fun e w' => e = .returned (.string (bL (txR (gr ks j)))) ∧ w = w') := fun j hj => by
   have := rj hj
   have h2 := LF nm hj
   exact ih _ (by omega) (by omega) (by omega) w _ (RsAt.get ks hs j hj)
  have HK := aa hk
  clear ih hv hS hs hk
  by_cases h0 : ks = []
  ·subst h0
   have EL : bL (txR (.node nm [])) = nm := by rw [wj, Wo]
   rw [EL]
   clear hr EL
   go_enter Tryz.func208, Tryz.ntmps208
   go_wp2_with fail
   go_ret
   exact ⟨rfl, rfl⟩
  ·have hpos : 0 < ks.length := List.length_pos_iff.2 h0
   have d0 : ((ks.length : Int) == 0) = false := beq_eq_false_iff_ne.2 (by omega)
   have jO : Hid (ks.length ≤ 1000000) := by unfold Hid; omega
   have HALL := aa (Wp nm h0)
   have HONE := aa (LC hpos)
   have tH : Hid (∀ j, (bL (uZ ks j)).size + 1 ≤ 5000000) := fun j => by have := LD nm h0 j; rw [zw]; omega
   have iB : Hid (∀ j, j < ks.length → (bL (txR (gr ks j))).size + 1 ≤ 5000000) := fun j hj => by have := LF nm hj; rw [zw]; omega
   have qE : Hid (∀ j, j < ks.length → j ≠ 0 → uZ ks j ++ [44] ++ txR (gr ks j) = uZ ks (j + 1)) := fun j h1 h2 => I3 h1 h2
   clear hr h0 fT htl
   go_enter Tryz.func208, Tryz.ntmps208
   go_wp2_with fail
   go_loop [3, 4] (fun s i => ∃ j : Nat, j ≤ ks.length ∧ i = .int .i64 j ∧ s = .string (bL (uZ ks j))) (fun _ i => ks.length - (intOf i).toNat)
   case atStart => exact ⟨0, Nat.zero_le _, rfl, rfl⟩
   case round =>
    obtain ⟨j, hj, rfl, rfl⟩ := hrel
    by_cases hlt : j < ks.length
    ·obtain ⟨kb, ko, rfl, um⟩ := nM HK.out hlt
     have HJ := aa (js.out j hlt)
     have i1 : (0 : Int) ≤ (j : Int) := by omega
     have i2 : (j : Int) < (ks.length : Int) := by omega
     have aV := aa hlt
     have z1 := tH.out j
     have z2 := iB.out j hlt
     have i3 : (j : Int) < 1000000 := by have := jO.out; omega
     clear hlt hj
     by_cases e0 : j = 0
     ·subst e0
      rw [Nat.add_zero] at um
      go_wp2_with fail
      refine HJ.out.mono ?_
      rintro e w' ⟨rfl, rfl⟩
      go_wp2_with fail
      go_round
      case rel => exact ⟨1, aV.out, rfl, by rw [yQ, HONE.out]⟩
      case measure => have := aV.out; simp [intOf]; omega
     ·have d1 : decide ((0 : Int) < (j : Int)) = true := decide_eq_true (by omega)
      have HE0 := aa e0
      have e0n : 0 < j := by omega
      clear e0
      go_wp2_with fail
      refine HJ.out.mono ?_
      rintro e w' ⟨rfl, rfl⟩
      go_wp2_with fail
      go_round
      case rel => exact ⟨j + 1, aV.out, by go_num, by rw [← qE.out j aV.out HE0.out, ← yQ, ← yQ]; rfl⟩
      case measure => have := aV.out; simp [intOf]; omega
    ·obtain rfl : j = ks.length := by omega
     have z1 := tH.out ks.length
     clear hlt hj
     go_wp2_with fail
     go_ret
     exact ⟨by rw [← HALL.out, ← yQ]; rfl, rfl⟩
set_option maxHeartbeats 2000000 in
theorem Nc (S : Nat → Prop) (w : World) (v : Value) (t : ay) (hT : aA S w v t) (hp : t.ps.length ≤ 1000000) (hn : t.ns.length ≤ 1000000) (hz : ∀ k, (gs t.ns k).size ≤ 70000) : Calls Tryz.prog 148 #[v] w (yE w t) := by
 obtain ⟨P, N, rfl, hP, hN⟩ := hT
 have hu := Up.alloc w (.cells #[P, N] 39)
 have jR : aA S (w.alloc (.cells #[P, N] 39)) (.agg #[P, N]) t := aA.keep ⟨P, N, rfl, hP, hN⟩ (hu.kept _)
 have eY := aa (r5 S _ _ t jR hp hn hz)
 have HT := aa jR
 have HU := aa hu
 have eH := aa (dW w P N 39)
 have kQ := aa (eu w P N 39)
 have hc0 := eH.out
 have hc1 := kQ.out
 clear hu jR hP hN
 go_enter Tryz.func148, Tryz.ntmps148
 go_wp2_with fail
 generalize w.alloc (.cells #[P, N] 39) = w1 at *
 refine eY.out.mono ?_
 rintro e w2 ⟨rfl, hb2⟩
 have aG : Up w1 w2 := hb2
 have hc0 := aG.cell eH.out
 have hc1 := aG.cell kQ.out
 have qD := aa (HT.out.keep (aG.kept S))
 have bw := aa (HU.out.trans aG)
 clear hb2 aG eY HT HU eH kQ
 by_cases he : az t = 0
 ·have HE := aa he
  rw [he]
  have tB := aa (K8 S t he (cu t 0) 0 (Nat.le_refl _) (aD he).1 w2 _ qD.out)
  have U3 := aa (Ek he)
  have htl := Lj he hz
  have dG : Hid ((txR (fO t)).length ≤ 5000000) := by unfold Hid; omega
  have hz1 : (bL (txR (fO t))).size ≤ 5000000 := by rw [zw]; omega
  clear htl
  have HX : Hid (bL (txR (fO t)) ++ bL [59] = bL (si t)) := by unfold Hid si; rw [yQ, if_neg (by simp [he])]
  have Lm : Hid (tE t = 0) := by unfold Hid tE; rw [if_neg (by simp [he])]
  clear he
  go_wp2_with fail
  refine tB.out.mono ?_
  rintro e w3 ⟨bX, v3, rfl, hr3⟩
  have dc := aa (bw.out.trans bX)
  have HTX := aa (P5 _ 64 (fO t) U3.out (by omega) dG.out w3 _ hr3)
  clear bX hr3 tB
  go_wp2_with fail
  refine HTX.out.mono ?_
  rintro e w4 ⟨rfl, rfl⟩
  go_wp2_with fail
  refine ⟨rfl, .tuple #[.string (bL (si t)), .int .i64 0], ?_, dc.out, by rw [Lm.out]; rfl⟩
  rw [← HX.out]
  simp [results, Tryz.results148, go_sem]
  rfl
 ·have BK : (az t != 0) = true := by simpa using he
  have HX : Hid (si t = []) := by unfold Hid si; rw [if_pos he]
  have Lm : Hid (tE t = 1) := by unfold Hid tE; rw [if_pos he]
  clear he
  generalize az t = te at BK ⊢
  go_wp2_with fail
  exact ⟨rfl, .tuple #[.string ⟨#[]⟩, .int .i64 1], by simp [results, Tryz.results148, go_sem], bw.out, by rw [Lm.out, HX.out]⟩
end
section
def nmLen : List UInt8 → Nat
 | [] => 0
 | c :: s => if c ∈ bF then 0 else nmLen s + 1
theorem A6 : ∀ s : List UInt8, nmLen s ≤ s.length
 | [] => Nat.le_refl _
 | c :: s => by
  rw [nmLen, List.length_cons]
  have := A6 s
  split <;> omega
theorem Cr : ∀ (s : List UInt8), ∀ c ∈ s.take (nmLen s), c ∉ bF
 | [], c, h => by simp at h
 | d :: s, c, h => by
  rw [nmLen] at h
  split at h
  ·simp at h
  ·rw [List.take_succ_cons, List.mem_cons] at h
   rcases h with rfl | h
   ·assumption
   ·exact Cr s c h
theorem E0 : ∀ (n : List UInt8) (d : UInt8) (s : List UInt8), (∀ c ∈ n, c ∉ bF) → d ∈ bF → nmLen (n ++ d :: s) = n.length
 | [], d, s, _, hd => by rw [List.nil_append, nmLen, if_pos hd]; rfl
 | c :: n, d, s, h, hd => by
  rw [List.cons_append, nmLen, if_neg (h c (by simp)), E0 n d s (fun x hx => h x (by simp [hx])) hd]; rfl
mutual
def rdN : Nat → List UInt8 → Option (RT × List UInt8)
 | 0, _ => none
 | _ + 1, [] => none
 | f + 1, c :: s => if c = 40 then rdK f [] s else if nmLen (c :: s) = 0 then none else some (.node ⟨((c :: s).take (nmLen (c :: s))).toArray⟩ [], (c :: s).drop (nmLen (c :: s)))
def rdK : Nat → List RT → List UInt8 → Option (RT × List UInt8)
 | 0, _, _ => none
 | f + 1, ks, s => match rdN f s with
  | none => none
  | some (_, []) => none
  | some (k, d :: s2) => if d = 41 then some (.node ByteArray.empty (ks ++ [k]), s2) else if d = 44 then rdK f (ks ++ [k]) s2 else none
end
mutual
theorem zx : ∀ (f : Nat) (s : List UInt8) (r : RT) (l : List UInt8), rdN f s = some (r, l) → l.length < s.length
 | 0, s, r, l, h => by rw [rdN] at h; cases h
 | f + 1, [], r, l, h => by rw [rdN] at h; cases h
 | f + 1, c :: s, r, l, h => by
  rw [rdN] at h
  split at h
  ·have := LG f [] s r l h
   rw [List.length_cons]; omega
  ·split at h
   ·cases h
   ·injection h with h
    injection h with h1 h2
    subst h2
    rw [List.length_drop]
    have := A6 (c :: s)
    rw [List.length_cons] at this ⊢
    omega
theorem LG : ∀ (f : Nat) (ks : List RT) (s : List UInt8) (r : RT) (l : List UInt8), rdK f ks s = some (r, l) → l.length < s.length
 | 0, ks, s, r, l, h => by rw [rdK] at h; cases h
 | f + 1, ks, s, r, l, h => by
  rw [rdK] at h
  split at h
  ·cases h
  ·cases h
  ·rename_i k d s2 e
   have h1 := zx f s k (d :: s2) e
   rw [List.length_cons] at h1
   split at h
   ·injection h with h
    injection h with _ h
    subst h; omega
   ·split at h
    ·have := LG f _ s2 r l h
     omega
    ·cases h
end
theorem Dq : ∀ (f g : Nat), (∀ s : List UInt8, 2 * s.length < f → 2 * s.length < g → rdN f s = rdN g s) ∧ (∀ (ks : List RT) (s : List UInt8), 2 * s.length + 1 < f → 2 * s.length + 1 < g → rdK f ks s = rdK g ks s)
 | 0, _ => ⟨fun s h => by omega, fun ks s h => by omega⟩
 | f + 1, 0 => ⟨fun s _ h => by omega, fun ks s _ h => by omega⟩
 | f + 1, g + 1 => by
  obtain ⟨h1, h2⟩ := Dq f g
  refine ⟨fun s a b => ?_, fun ks s a b => ?_⟩
  ·cases s with
   | nil => rw [rdN, rdN]
   | cons c s =>
    rw [List.length_cons] at a b
    rw [rdN, rdN]
    split
    ·exact h2 [] s (by omega) (by omega)
    ·rfl
  ·rw [rdK, rdK, h1 s (by omega) (by omega)]
   cases e : rdN g s with
   | none => rfl
   | some q =>
    obtain ⟨k, l⟩ := q
    cases l with
    | nil => rfl
    | cons d s2 =>
     have := zx g s k _ e
     rw [List.length_cons] at this
     show (if d = 41 then _ else if d = 44 then _ else _) = (if d = 41 then _ else if d = 44 then _ else _)
     split
     ·rfl
     ·split
      ·exact h2 _ _ (by omega) (by omega)
      ·rfl
def fW (s : List UInt8) : Option (RT × List UInt8) := rdN (2 * s.length + 1) s
def sF (ks : List RT) (s : List UInt8) : Option (RT × List UInt8) := rdK (2 * s.length + 2) ks s
theorem I4 (s : List UInt8) : fW (40 :: s) = sF [] s := by
 unfold fW sF
 rw [rdN, if_pos rfl]
 exact (Dq _ _).2 _ _ (by simp; omega) (by simp)
theorem gY {c : UInt8} (s : List UInt8) (h : c ≠ 40) : fW (c :: s) = if nmLen (c :: s) = 0 then none else some (.node ⟨((c :: s).take (nmLen (c :: s))).toArray⟩ [], (c :: s).drop (nmLen (c :: s))) := by
 unfold fW
 rw [rdN, if_neg h]
theorem I5 (ks : List RT) (s : List UInt8) : sF ks s = match fW s with
  | none => none
  | some (_, []) => none
  | some (k, d :: s2) => if d = 41 then some (.node ByteArray.empty (ks ++ [k]), s2) else if d = 44 then sF (ks ++ [k]) s2 else none := by
 unfold sF fW
 rw [rdK]
 cases e : rdN (2 * s.length + 1) s with
 | none => rfl
 | some q =>
  obtain ⟨k, l⟩ := q
  cases l with
  | nil => rfl
  | cons d s2 =>
   have := zx _ s k _ e
   rw [List.length_cons] at this
   show (if d = 41 then _ else if d = 44 then _ else _) = (if d = 41 then _ else if d = 44 then _ else _)
   split
   ·rfl
   ·split
    ·exact (Dq _ _).2 _ _ (by omega) (by omega)
    ·rfl
theorem Dr : ∀ (f : Nat), (∀ (s : List UInt8) (r : RT) (l : List UInt8), rdN f s = some (r, l) → s = txR r ++ l ∧ kG r) ∧ (∀ (ks : List RT) (s : List UInt8) (r : RT) (l : List UInt8), rdK f ks s = some (r, l) → ∃ k yz, r = .node ByteArray.empty (ks ++ k :: yz) ∧ s = txR k ++ txRs yz ++ 41 :: l ∧ ∀ q ∈ k :: yz, kG q)
 | 0 => ⟨fun s r l h => (by rw [rdN] at h; cases h), fun ks s r l h => (by rw [rdK] at h; cases h)⟩
 | f + 1 => by
  obtain ⟨h1, h2⟩ := Dr f
  refine ⟨fun s r l h => ?_, fun ks s r l h => ?_⟩
  ·cases s with
   | nil => rw [rdN] at h; cases h
   | cons c s =>
    rw [rdN] at h
    split at h
    ·rename_i hc
     obtain ⟨k, yz, rfl, h4, h5⟩ := h2 [] s r l h
     refine ⟨?_, Hy rfl (by simp) (by simpa using h5)⟩
     rw [List.nil_append, txR, hc, h4]; simp
    ·split at h
     ·cases h
     ·rename_i hc hn
      injection h with h
      injection h with h3 h4
      subst h3; subst h4
      refine ⟨by rw [txR, List.take_append_drop], Hz ?_ (by simpa using Cr (c :: s))⟩
      show List.take _ _ ≠ []
      intro e
      have := congrArg List.length e
      rw [List.length_take] at this
      have h5 := A6 (c :: s)
      simp only [List.length_nil] at this
      omega
  ·rw [rdK] at h
   split at h
   ·cases h
   ·cases h
   ·rename_i k d s2 e
    obtain ⟨h3, h4⟩ := h1 s k _ e
    split at h
    ·rename_i hd
     injection h with h
     injection h with h5 h6
     subst h5; subst h6
     exact ⟨k, [], rfl, by rw [h3, hd, txRs]; simp, by simpa using h4⟩
    ·split at h
     ·rename_i _ hd
      obtain ⟨k2, yz, rfl, h6, h7⟩ := h2 _ _ _ _ h
      refine ⟨k, k2 :: yz, by simp, ?_, fun q hq => ?_⟩
      ·rw [h3, hd, h6, txRs]; simp
      ·rcases List.mem_cons.1 hq with rfl | hq
       ·exact h4
       ·exact h7 q hq
     ·cases h
mutual
theorem I6 : ∀ (r : RT), kG r → ∀ (d : UInt8) (s : List UInt8), d ∈ bF → fW (txR r ++ d :: s) = some (r, d :: s)
 | .node nm [], h, d, s, hd => by
  obtain ⟨_, h1⟩ := h _ (by rw [subR]; exact List.mem_cons_self)
  obtain ⟨h1, h2⟩ := h1 rfl
  have h1 : nm.data.toList ≠ [] := h1
  have h2 : ∀ c ∈ nm.data.toList, c ∉ bF := h2
  rw [txR]
  cases hn : nm.data.toList with
  | nil => exact absurd hn h1
  | cons c n =>
   rw [hn] at h2
   have hc : c ≠ 40 := fun e => h2 c (by simp) (by rw [e]; decide)
   have hl := E0 (c :: n) d s h2 hd
   rw [List.cons_append] at hl ⊢
   rw [gY _ hc, hl, if_neg (by simp), ← List.cons_append, List.take_left, List.drop_left]
   have e : (⟨(c :: n).toArray⟩ : ByteArray) = nm := eL (by rw [hn])
   rw [e]
 | .node nm (k :: ks), h, d, s, hd => by
  obtain ⟨h1, _⟩ := h _ (by rw [subR]; exact List.mem_cons_self)
  have h1 : nm = ByteArray.empty := H7 (h1 (by simp [RT.kids]))
  have e : txR k ++ txRs ks ++ [41] ++ d :: s = (txR k ++ txRs ks) ++ 41 :: (d :: s) := by simp
  rw [txR, List.cons_append, I4, e, h1]
  exact P6 (k :: ks) (by simp) (fun q hq => ru h hq) [] (d :: s)
theorem P6 : ∀ (qs : List RT), qs ≠ [] → (∀ q ∈ qs, kG q) → ∀ (Z : List RT) (s : List UInt8), sF Z ((match qs with | [] => [] | k :: ks => txR k ++ txRs ks) ++ 41 :: s) = some (.node ByteArray.empty (Z ++ qs), s)
 | [], h, _, _, _ => absurd rfl h
 | [k], _, h, Z, s => by
  show sF Z ((txR k ++ txRs []) ++ 41 :: s) = _
  rw [I5, txRs, List.append_nil, I6 k (h k (by simp)) 41 s (by decide)]
  rfl
 | k :: k2 :: ks, _, h, Z, s => by
  have e : (txR k ++ txRs (k2 :: ks)) ++ 41 :: s = txR k ++ 44 :: (txR k2 ++ txRs ks ++ 41 :: s) := by rw [txRs]; simp
  have ih := P6 (k2 :: ks) (by simp) (fun q hq => h q (by simp [hq])) (Z ++ [k]) s
  show sF Z ((txR k ++ txRs (k2 :: ks)) ++ 41 :: s) = _
  rw [e, I5, I6 k (h k (by simp)) 44 _ (by decide)]
  show (if (44 : UInt8) = 41 then _ else if (44 : UInt8) = 44 then sF (Z ++ [k]) (txR k2 ++ txRs ks ++ 41 :: s) else none) = _
  rw [if_neg (by decide), if_pos rfl]
  have ih : sF (Z ++ [k]) (txR k2 ++ txRs ks ++ 41 :: s) = _ := ih
  rw [ih]; simp
end
theorem Ds {s : List UInt8} {r : RT} : fW s = some (r, [59]) ↔ iU s = some r := by
 constructor
 ·intro h
  obtain ⟨h1, h2⟩ := (Dr _).1 s r [59] h
  rw [h1]; exact uP h2
 ·intro h
  obtain ⟨h1, h2⟩ := EO h
  rw [h1]; exact I6 r h2 59 [] (by decide)
theorem I7 {s : List UInt8} {r : RT} {l : List UInt8} (h : fW s = some (r, l)) : aH r ≤ s.length := by
 obtain ⟨h1, h2⟩ := (Dr _).1 s r l h
 have := (zn r h2).1
 rw [h1, List.length_append]; omega
end
section
open Go.RowKit Go.Deep
theorem Tryz.Wq : (Tryz.prog.info? 96).map (fun i => (i.zero, i.size, i.bytes)) = some (some (.agg #[.slice none 0 0, .slice none 0 0, .string ⟨#[]⟩]), 3, 64) := by kernel_rfl
def EnI (w : World) (names : List ByteArray) (n : Nat) (out : Value) (wr : World) : Prop := Up w wr ∧ ∃ es : List mq, iI w.heap.size wr out es ∧ es.map (·.2) = ((jU names.tail).take n).map (uR names)
theorem iI.form {base : Nat} {w : World} {v : Value} {es : List mq} (h : iI base w v es) : ∃ p c, v = .slice p es.length c := by
 rcases h.1.2 with ⟨e, h0⟩ | ⟨g, cap, cur, e, _⟩
 ·exact ⟨none, 0, by rw [e, h0]⟩
 ·exact ⟨_, _, e⟩
theorem LH {R : List (BT ByteArray)} {n : Nat} (h : n < R.length) : R.take (n + 1) = R.take n ++ [gB R n] := by
 rw [List.take_succ_eq_append_getElem h]; simp [gB, h]
set_option maxHeartbeats 8000000 in
theorem E1 (S : Nat → Prop) (w : World) (v : Value) (names : List ByteArray) (hok : cH names) (h : ah S w v names) : Calls Tryz.prog 68 #[v] w (IV w names) := by
 have hlo := hok.lo
 have hhi := hok.hi
 obtain ⟨p, cap, rfl, hcap, -⟩ := aB.open h
 have h : ah S w (.slice p names.length cap) names := h
 obtain ⟨nb, no, rfl, hc0⟩ := bz h (k := 0) (by omega)
 rw [Nat.add_zero] at hc0
 have hz : ∀ x ∈ names, x.size ≤ 20 := fun x hx => o7 (hok.nm x hx)
 have P8 := aa (SV names.tail.length names.tail (Nat.le_refl _) (by rw [List.length_tail]; omega) (by rw [List.length_tail]; omega) (fun x hx => hz x (List.mem_of_mem_tail hx)) S w _ (EW h hlo))
 have lU := aa hok
 have eH := aa hc0
 have tH : Hid (names.tail.length ≤ 4 ∧ 1 ≤ names.tail.length) := by unfold Hid; rw [List.length_tail]; omega
 have hgz : (gs names 0).size ≤ 20 := gI hz 0
 have HGZ := aa hgz
 have HZT : Hid (∀ k, (gs (bD names.tail) k).size ≤ 100) := gI fun x hx => wu tH.out.1 (fun x hx => hz x (List.mem_of_mem_tail hx)) hx
 have od : Hid ((bD names.tail).length = (jU names.tail).length ∧ (bD names.tail).length ≤ 15 ∧ 1 ≤ (bD names.tail).length) := ⟨by unfold bD; rw [List.length_map], ry tH.out.1, Wi tH.out.1 tH.out.2⟩
 have i0 : ¬ cap = 1 := by omega
 have i1 : (1 : Int) ≤ (names.length : Int) := by omega
 have i2 : 1 ≤ names.length := by omega
 clear h hc0 hz hok hhi hgz
 go_enter Tryz.func68, Tryz.ntmps68
 go_wp2_with fail
 refine P8.out.mono ?_
 rintro e w1 ⟨aR, tv, rfl, I8⟩
 obtain ⟨tp, tc, rfl, -, -⟩ := aB.open I8
 have HTV : Hid (ah (fun b => S b ∨ w.heap.size ≤ b) w1 (.slice tp (bD names.tail).length tc) (bD names.tail)) := I8
 have bH := aa aR
 have sG : Hid (EnI w1 names 0 (.slice none 0 0) w1) := ⟨Up.refl _, [], iI.nil _ _, by simp⟩
 clear aR I8 P8
 go_wp2_with fail
 go_loopw [4, 6, 7, 8, 9, 14] (fun out _ _ _ _ i wr => ∃ n : Nat, n ≤ (bD names.tail).length ∧ i = .int .i64 n ∧ Hid (EnI w1 names n out wr)) (fun _ _ _ _ _ i _ => (bD names.tail).length - (intOf i).toNat)
 case atStart => exact ⟨0, Nat.zero_le _, rfl, sG.out⟩
 case round =>
  obtain ⟨n, hn, rfl, hI⟩ := hrel
  obtain ⟨wo, rfl⟩ : ∃ wo : World, wo = wr := ⟨_, rfl⟩
  obtain ⟨dH, es, hes, hem⟩ := hI.out
  have i3 : (0 : Int) ≤ (n : Int) := by omega
  by_cases hlt : n < (bD names.tail).length
  ·obtain ⟨tb, to', rfl, hct⟩ := bz (ah.keep HTV.out (dH.kept _)) hlt
   have hnl : n < (jU names.tail).length := by rw [← od.out.1]; exact hlt
   obtain ⟨g1, g2⟩ := rts_gs hnl
   have E2 := enF lU.out g2
   have hen : es.length = n := by
    have := congrArg List.length hem
    rw [List.length_map, List.length_map, List.length_take] at this
    omega
   have gV : Hid (((jU names.tail).take (n + 1)).map (uR names) = es.map (·.2) ++ [uR names (gB (jU names.tail) n)]) := by
    unfold Hid; rw [LH hnl, List.map_append, hem]; rfl
   have z1 := HGZ.out
   have z2 : (gs (bD names.tail) n).size ≤ 100 := HZT.out n
   rw [g1] at hct z2
   have yR : Hid (∀ W, Calls Tryz.prog 121 #[.string (mX names (iW (gB (jU names.tail) n)))] W (yF W (mX names (iW (gB (jU names.tail) n))))) := fun W => Wa W _ E2.psz (ia_ok _ E2.psz)
   unfold mX at yR
   have jy := aa E2
   have tL := aa hes
   have u7 := aa hen
   have aV := aa hlt
   have E3 := aa dH
   have dL := (bH.out.trans dH).cell eH.out
   have i4 : (n : Int) < ((bD names.tail).length : Int) := by omega
   have i5 : (n : Int) < 16 := by have := od.out.2.1; omega
   clear hI E2 hes hen hem dH hlt hnl g1 g2
   generalize gB (jU names.tail) n = r at *
   go_wp2_with fail
   refine (yR.out wo).mono ?_
   rintro e w2 ⟨aG, pv, rfl, hpv⟩
   have hpe : tF (mX names (iW r)) = 0 := by unfold tF; rw [jy.out.Nb]; exact jy.out.te
   have hpt : qF (mX names (iW r)) = flat (btR (uB names r)) := by unfold qF; rw [jy.out.Nb]; simp [jy.out.te]
   unfold mX at hpe hpt
   rw [hpe]
   have hpv : aA Any w2 pv (flat (btR (uB names r))) := by have h := hpv; unfold mX at h; rw [hpt] at h; exact h
   obtain ⟨q0, xu⟩ : ∃ q0, q0 = flat (btR (uB names r)) := ⟨_, rfl⟩
   obtain ⟨q1, hq1⟩ : ∃ q1, q1 = flat (uR names r) := ⟨_, rfl⟩
   rw [← xu] at hpv
   obtain ⟨P2, N2, rfl, fP, fQ⟩ := hpv
   obtain ⟨pp, pc, rfl, -, -⟩ := aB.open fP
   obtain ⟨np, nc, rfl, -, -⟩ := aB.open fQ
   have fP : aq Any w2 (.slice pp q0.ps.length pc) q0.ps := fP
   have fQ : ah Any w2 (.slice np q0.ns.length nc) q0.ns := fQ
   have bf := Up.alloc w2 (.cells #[.slice pp q0.ps.length pc, .slice np q0.ns.length nc] 39)
   have hb3 := fh (w := w2) (P := .slice pp q0.ps.length pc) (N := .slice np q0.ns.length nc) (T := 39)
   have hs3 : (w2.alloc (.cells #[.slice pp q0.ps.length pc, .slice np q0.ns.length nc] 39)).heap.size = w2.heap.size + 1 := World.size_alloc _ _
   have hl0 : q0.ps.length ≤ 1000000 ∧ q0.ns.length ≤ 1000000 := by have := jy.out.len; rw [xu, lH, ri]; omega
   have fA : q1.ps.length ≤ 1000000 ∧ q1.ns.length ≤ 1000000 := by have := jy.out.len; rw [hq1, lH, ri]; omega
   have Ef := aa (GM Any (w2.alloc (.cells #[.slice pp q0.ps.length pc, .slice np q0.ns.length nc] 39)) _ q0 (aA.keep ⟨_, _, rfl, fP, fQ⟩ (bf.kept _)) hl0.1 hl0.2 (by rw [xu]; exact jy.out.sz))
   have LI : Hid (az q0 = 0 ∧ qp q0 = q1) := by unfold Hid; rw [xu, hq1]; exact ⟨jy.out.te, jy.out.can⟩
   have kE : Hid (tE q1 = 0 ∧ (⟨(si q1).toArray⟩ : ByteArray) = aK (uR names r)) := by
    unfold Hid
    rw [hq1]
    refine ⟨by unfold tE; rw [if_neg (by simp [jy.out.te2])], ?_⟩
    unfold aK; rw [jy.out.tx]
   have qb : Hid (∀ W v, aA Any W v q1 → Calls Tryz.prog 29 #[v] W (yE W q1)) := fun W v h => Ll Any W v q1 h fA.1 fA.2 (by rw [hq1]; exact jy.out.sz2)
   have dc := aa (aG.trans bf)
   have Ag := aa hb3
   have E4 := aa hs3
   have x7 : Hid (wo.heap.size ≤ w2.heap.size) := aG.size
   have HQ1 := aa hq1
   obtain ⟨b0, b1, b2, b3⟩ := boxed hb3
   clear hpe hpt fP fQ bf hb3 hs3 hl0 fA aG xu hq1 dL hct yR z1 z2
   go_wp2_with fail
   generalize w2.alloc (.cells #[.slice pp q0.ps.length pc, .slice np q0.ns.length nc] 39) = w3 at *
   refine Ef.out.mono ?_
   rintro e w4 ⟨cF, ⟨jY, -⟩ | ⟨-, cv, rfl, P4, N4, rfl, dY, eG⟩⟩
   ·exact absurd LI.out.1 jY
   rw [LI.out.2] at dY eG
   obtain ⟨p4, c4, rfl, -, -⟩ := aB.open dY
   obtain ⟨n4, d4, rfl, -, -⟩ := aB.open eG
   have hb4 := (Below.block cF w2.heap.size (by rw [E4.out]; omega)).trans Ag.out
   have Zy := aa hb4
   have jQ := aa (dc.out.trans cF)
   have KY : Hid (aq (fun b => w3.heap.size ≤ b) w4 (.slice p4 q1.ps.length c4) q1.ps ∧ ah (fun b => w3.heap.size ≤ b) w4 (.slice n4 q1.ns.length d4) q1.ns) := ⟨dY, eG⟩
   obtain ⟨b0, b1, b2, b3⟩ := boxed hb4
   clear hb4 cF dY eG Ef
   have HST := aa (dZ (w := wo) (p := .slice p4 q1.ps.length c4) (q := .slice n4 q1.ns.length d4) Zy.out x7.out jQ.out)
   go_wp2_with fail
   obtain ⟨u5, s0, s1, s2⟩ := HST.out
   have DX : aA (fun b => w3.heap.size ≤ b) ((w4.setCell ⟨w2.heap.size, 0, none⟩ (.slice p4 q1.ps.length c4)).setCell ⟨w2.heap.size, 1, none⟩ (.slice n4 q1.ns.length d4)) (.agg #[.slice p4 q1.ps.length c4, .slice n4 q1.ns.length d4]) q1 :=
    ⟨_, _, rfl, aq.keep KY.out.1 fun b hb _ => s2 b (by have := E4.out; omega), ah.keep KY.out.2 fun b hb _ => s2 b (by have := E4.out; omega)⟩
   have oo := aa DX
   have iT := aa u5
   have HC5 := aa (And.intro s0 s1)
   clear DX u5 s0 s1 s2 HST KY b0 b1 b2 b3
   generalize (w4.setCell ⟨w2.heap.size, 0, none⟩ _).setCell ⟨w2.heap.size, 1, none⟩ _ = w5 at *
   refine (qb.out w5 _ (oo.out.sub fun _ _ _ => trivial)).mono ?_
   rintro e w6 ⟨cU, rfl⟩
   rw [kE.out.1, kE.out.2]
   have b0 := cU.cell HC5.out.1
   have b1 := cU.cell HC5.out.2
   have xw := aa (iT.out.trans cU)
   have su := aa (oo.out.keep (cU.kept _))
   have S1 := tL.out.up xw.out
   have S2 := aa S1
   obtain ⟨op, oc, rfl⟩ := S1.form
   rw [u7.out]
   have S2 : Hid (iI w1.heap.size w6 (.slice op n oc) es) := by have h := S2.out; rw [u7.out] at h; exact h
   have I9 : Hid (aA (fun b => some b ≠ (Value.slice op n oc).ownBlock) w6 (.agg #[.slice p4 q1.ps.length c4, .slice n4 q1.ns.length d4]) (flat (uR names r))) := by
    have h := su.out
    have hlt : ∀ b, (Value.slice op n oc).ownBlock = some b → b < wo.heap.size := fun b hb => by
     have h2 := tL.out.1
     rw [u7.out] at h2
     exact (World.ownsRow.lt h2 b hb).2
    rw [← HQ1.out]
    exact h.sub fun b hb _ e => by have h1 := hlt b e.symm; have h2 := x7.out; have h3 := E4.out; omega
   have ct : Hid (w1.heap.size ≤ w6.heap.size) := (E3.out.trans xw.out).size
   clear S1 cU oo su qb
   go_wp2_with (at_builtin; refine FC w6 rfl _ _ 91 rfl w1.heap.size _ 64 Tryz.underlying91 Tryz.Wq rfl (by decide) S2.out rfl ((.slice p4 q1.ps.length c4, .slice n4 q1.ns.length d4), uR names r) rfl I9.out n u7.out (by have := aV.out; have := od.out.2.1; omega) ct.out ?_; intro g8 gW w8 bU cG sH; have sI := aa bU; have iX := aa sH; clear bU cG sH)
   go_roundw
   case rel => exact ⟨n + 1, aV.out, by go_num, Below.trans (show Below w1.heap.size w1 w6 from E3.out.trans xw.out) iX.out, _, sI.out, by rw [gV.out, List.map_append]; rfl⟩
   case measure => have := aV.out; simp [intOf]; omega
  ·obtain rfl : n = (bD names.tail).length := by omega
   have i4 : ¬ ((bD names.tail).length : Int) < ((bD names.tail).length : Int) := by omega
   have hes' := iI.up hes (Up.refl wo)
   obtain ⟨op, oc, rfl⟩ := hes'.form
   have sJ : es.map (·.2) = (rt names.length names.tail).map (uR names) := by
    rw [hem, od.out.1, List.take_length]
    have : rt names.length names.tail = jU names.tail := oW _ _ _ (by simp) (Nat.le_refl _)
    rw [this]
   have gO : es.length = (bD names.tail).length := by
    have := congrArg List.length hem
    rw [List.length_map, List.length_map, od.out.1, List.take_length] at this
    rw [od.out.1]; exact this
   have hne : es ≠ [] := fun e => by rw [e] at gO; have := od.out.2.2; simp at gO; omega
   have YJ := aa (PY hes hne (by rw [gO]; have := od.out.2.1; omega))
   have tL := aa hes
   have P9 := aa sJ
   have E3 := aa dH
   clear hI hes hes' hem sJ dH hlt hne gO
   go_wp2_with fail
   refine YJ.out.mono ?_
   rintro e w9 ⟨rfl, hg9, es', Vl, Lx, g9, c9, hv9, Lz⟩
   have qf : Hid (IV w names (.returned (.tuple #[.slice op es.length oc, .int .i64 0])) w9) := by
    have hB : Below w1.heap.size w1 w9 := Below.grown (show Below w1.heap.size w1 wo from E3.out) hg9 E3.out.size fun k hk => (World.ownsRow.lt tL.out.1 k hk).1
    have zW : (es'.map (·.2)) = aM names := by
     refine wk (((Vl.map (·.2)).trans (List.Perm.of_eq P9.out)).trans (jw _).symm) Lx (pM _) fun r hr => ?_
     have hr2 : r ∈ aM names := (jw _).mem_iff.2 (P9.out ▸ (Vl.map (·.2)).mem_iff.1 hr)
     exact (cQ lU.out hr2).1.good.jb
    refine ⟨?_, _, rfl, g9, c9, es', ?_, zW, Lz, ?_⟩
    ·exact Up.trans bH.out hB
    ·rw [hv9, ← zW, List.length_map]
    ·intro x hx
     have h1 := tL.out.2 x (Vl.mem_iff.1 hx)
     exact (h1.keep fun b hb hlt => hg9.block b hlt hb).sub fun _ _ _ => trivial
   clear hg9 Vl Lx hv9 Lz
   go_wp2_with fail
   go_ret2
   exact qf.out
end
end Go.Proofs.YthgabkgmkolobaaGreat
