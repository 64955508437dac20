/- The contract of layer 31's reference's Parse where the text is a tree's: the tree lies in .. -/
import Derived.Test.YteegefnjnikngaaGreatQ1
import Derived.Test.YteegefnjnikngaaGreatQ37
import Derived.Test.YteegefnjnikngaaGreatQ26
import Derived.Test.YteegefnjnikngaaGreatQ4
import Derived.Test.YteegefnjnikngaaGreatQ11
import Derived.Test.YteegefnjnikngaaGreatQ10
import Derived.Test.YteegefnjnikngaaGreatQ27
import Derived.Test.YteegefnjnikngaaGreatQ35
import Derived.Test.YteegefnjnikngaaGreatQ3
import Derived.Test.YteegefnjnikngaaGreatQ28
import Derived.Test.YteegefnjnikngaaGreatQ31
import Derived.Test.YteegefnjnikngaaGreatQ30
import Derived.Test.YteegefnjnikngaaGreatQ9
import Derived.Test.YteegefnjnikngaaGreatQ12
import Derived.Test.YteegefnjnikngaaGreatQ21
set_option maxRecDepth 100000
namespace Go.Proofs.YteegefnjnikngaaGreat
section
open Go.RowKit Go.Deep
set_option maxHeartbeats 4000000 in
theorem KJ (w : World) (s : ByteArray) (hs : s.size ≤ 1000) {r : RT} (hpr0 : jr s.data.toList = some r) (he0 : az (flat r) = 0) : Calls Tryz.prog 153 #[.string s] w fun e w' => Up w w' ∧ ∃ v, e = .returned (.tuple #[v, .int .i64 0]) ∧ aC (fun b => w.heap.size ≤ b) w' v (flat r) := by
 have HE0 := aa he0
 have HPR0 := aa hpr0
 clear he0 hpr0
 have hrb := fF (w := w) (P := .slice none 0 0) (N := .slice none 0 0) (T := 39)
 have hu := Up.alloc w (.cells #[.slice none 0 0, .slice none 0 0] 39)
 have hsz : (w.alloc (.cells #[.slice none 0 0, .slice none 0 0] 39)).heap.size = w.heap.size + 1 := World.size_alloc _ _
 have HU := aa hu
 have bQ := aa hsz
 have jA := aa hrb
 have kr := aa hs
 have d1 : decide ((65536 : Int) < (s.size : Int)) = false := decide_eq_false (by omega)
 have Vp : ¬ 65536 < s.size := by omega
 have QI := aa (fun W => Fu s.size s rfl hs W 0 (by omega))
 clear hrb hu hsz hs
 go_enter Tryz.func153, Tryz.ntmps153
 go_wp2_with fail
 clear d1 Vp
 generalize w.alloc (.cells #[.slice none 0 0, .slice none 0 0] 39) = w1 at *
 refine (QI.out w1).mono ?_
 rintro e w2 ⟨aK, hm⟩
 have bH := aa (HU.out.trans aK)
 have fu := aa ((Below.block aK w.heap.size (by rw [bQ.out]; omega)).trans jA.out)
 have kB : Hid (w.heap.size + 1 ≤ w2.heap.size) := by have := aK.size; rw [bQ.out] at this; exact this
 clear aK QI HU bQ jA
 have hr : gG s.data.toList = some (r, [59]) := DK.2 HPR0.out
 rw [hr] at hm
 obtain ⟨v2, rfl, hr2⟩ := hm
 obtain ⟨b2, rfl⟩ := pM hr2
 have qA : jr s.data.toList = some r := HPR0.out
 have ij : s.data.toList.length = s.size := by rw [Array.length_toList]; rfl
 obtain ⟨CP, CQ, Fy⟩ := yR qA
 have QJ := Jk hr
 rw [ij] at CP CQ QJ
 have JB : Hid ((flat r).ps.length ≤ 1000000) := by unfold Hid; have := kr.out; omega
 have JC : Hid ((flat r).ns.length ≤ 1000000) := by unfold Hid; have := kr.out; omega
 have JD : Hid (∀ k, (gs (flat r).ns k).size ≤ 70000) := fun j => by have := Fy j; rw [ij] at this; have := kr.out; omega
 have nw := aa (A9 _ w2 _ r hr2 (by have := kr.out; omega))
 have oF := aa qA
 have t1 : (bL [59]).toList = [59] := by rw [toList_data]; rfl
 have t2 : ((bL [59]).toList == [59]) = true := by rw [t1]; rfl
 generalize bL [59] = ub at *
 obtain ⟨q0, q1, q2, q3⟩ := boxed fu.out
 clear CP CQ Fy QJ ij qA hr hr2
 go_wp2_with fail
 refine nw.out.mono ?_
 rintro e w4 ⟨b9, _, rfl, P4, N4, rfl, dZ, en⟩
 obtain ⟨pp, pc, rfl, -, -⟩ := aD.open dZ
 obtain ⟨np, nc, rfl, -, -⟩ := aD.open en
 have dZ : aB _ w4 (.slice pp (flat r).ps.length pc) (flat r).ps := dZ
 have en : av _ w4 (.slice np (flat r).ns.length nc) (flat r).ns := en
 have bq := Up.alloc w4 (.cells #[.slice pp (flat r).ps.length pc, .slice np (flat r).ns.length nc] 39)
 have b0 := ew w4 (.slice pp (flat r).ps.length pc) (.slice np (flat r).ns.length nc) 39
 have b1 := ey w4 (.slice pp (flat r).ps.length pc) (.slice np (flat r).ns.length nc) 39
 have jo := aa b0
 have iq := aa b1
 have yY := (Below.block (b9.trans bq) w.heap.size (by have := kB.out; omega)).trans fu.out
 have wV := aa yY
 have JE := aa (bH.out.trans (b9.trans bq))
 have qJ : Hid (aC (fun b => w2.heap.size ≤ b) (w4.alloc (.cells #[.slice pp (flat r).ps.length pc, .slice np (flat r).ns.length nc] 39)) (.agg #[.slice pp (flat r).ps.length pc, .slice np (flat r).ns.length nc]) (flat r)) := aC.keep ⟨_, _, rfl, dZ, en⟩ (bq.kept _)
 have fA := aa (vY _ _ _ (flat r) qJ.out JB.out JC.out JD.out)
 have QE : Hid (w2.heap.size ≤ (w4.alloc (.cells #[.slice pp (flat r).ps.length pc, .slice np (flat r).ns.length nc] 39)).heap.size) := (b9.trans bq).size
 clear b9 dZ en bq nw yY fu bH q0 q1 q2 q3 t1 t2
 go_wp2_with fail
 generalize w4.alloc (.cells #[.slice pp (flat r).ps.length pc, .slice np (flat r).ns.length nc] 39) = w5 at *
 refine fA.out.mono ?_
 rintro e w6 ⟨rfl, dH⟩
 have dH : Up w5 w6 := dH
 have b0 := dH.cell jo.out
 have b1 := dH.cell iq.out
 have mX := (Below.block dH w.heap.size (by have := kB.out; have := QE.out; omega)).trans wV.out
 have Bi := aa mX
 have Bj := aa (JE.out.trans dH)
 have Fz := aa (qJ.out.keep (dH.kept _))
 obtain ⟨q0, q1, q2, q3⟩ := boxed mX
 clear dH mX fA
 rw [HE0.out]
 have HST := aa (dL (w := w) (p := .slice pp (flat r).ps.length pc) (q := .slice np (flat r).ns.length nc) Bi.out (Nat.le_refl _) Bj.out)
 go_wp2_with fail
 obtain ⟨s1, s2, s3, s4⟩ := HST.out
 obtain ⟨P7, N7, e7, BS, QF⟩ := Fz.out
 have e8 : P7 = .slice pp (flat r).ps.length pc ∧ N7 = .slice np (flat r).ns.length nc := by
  injection e7 with e7
  have := congrArg Array.toList e7
  simp at this
  exact ⟨this.1.symm, this.2.symm⟩
 obtain ⟨rfl, rfl⟩ := e8
 have hsw := kB.out
 refine ⟨rfl, .tuple #[.agg #[.slice pp (flat r).ps.length pc, .slice np (flat r).ns.length nc], .int .i64 0], by simp [results, Tryz.results153, go_sem, s2, s3], ?_⟩
 refine ⟨s1, _, rfl, ?_⟩
 exact ⟨_, _, rfl, (aB.keep BS fun b hb _ => s4 b (by have : w2.heap.size ≤ b := hb; omega)).sub fun b hb _ => by have : w2.heap.size ≤ b := hb; omega, (av.keep QF fun b hb _ => s4 b (by have : w2.heap.size ≤ b := hb; omega)).sub fun b hb _ => by have : w2.heap.size ≤ b := hb; omega⟩
end
section
open Go.RowKit Go.Deep
end
section
open Go.RowKit Go.Deep
theorem WL {a b : List Int} (hl : a.length = b.length) (h : ∀ k, k < a.length → gi a k = gi b k) : a = b := by
 refine List.ext_getElem hl fun k h1 h2 => ?_
 have := h k h1
 simpa [gi, h1, h2] using this
theorem WM {a b : List ByteArray} (hl : a.length = b.length) (h : ∀ k, k < a.length → gs a k = gs b k) : a = b := by
 refine List.ext_getElem hl fun k h1 h2 => ?_
 have := h k h1
 simpa [gs, h1, h2] using this
theorem WN {t u : ax} (h1 : t.ps = u.ps) (h2 : t.ns = u.ns) : t = u := by
 cases t; cases u
 simp only at h1 h2
 rw [h1, h2]
set_option maxHeartbeats 4000000 in
theorem KL (S T : Nat → Prop) (w : World) (v u : Value) (t q : ax) (h : aC S w v t) (h2 : aC T w u q) (hp : t.ps.length ≤ 1000000) (hn : t.ns.length ≤ 1000000) (hne : t ≠ q) :
  Calls Tryz.prog 44 #[v, u] w fun e w' => e = .returned (.bool false) ∧ Up w w' := by
 obtain ⟨P, N, rfl, hP, hN⟩ := h
 obtain ⟨P2, N2, rfl, fP, fQ⟩ := h2
 obtain ⟨pp, pc, rfl, _, _⟩ := aD.open hP
 obtain ⟨np, nc, rfl, _, _⟩ := aD.open hN
 obtain ⟨nA, nB, rfl, _, _⟩ := aD.open fP
 obtain ⟨nC, nD, rfl, _, _⟩ := aD.open fQ
 have hP : aB S w (.slice pp t.ps.length pc) t.ps := hP
 have hN : av S w (.slice np t.ns.length nc) t.ns := hN
 have fP : aB T w (.slice nA q.ps.length nB) q.ps := fP
 have fQ : av T w (.slice nC q.ns.length nD) q.ns := fQ
 have aX := Up.alloc w (.cells #[.slice pp t.ps.length pc, .slice np t.ns.length nc] 39)
 have aK := Up.alloc (w.alloc (.cells #[.slice pp t.ps.length pc, .slice np t.ns.length nc] 39)) (.cells #[.slice nA q.ps.length nB, .slice nC q.ns.length nD] 39)
 have hu := aX.trans aK
 have a0 := aK.cell (ew w (.slice pp t.ps.length pc) (.slice np t.ns.length nc) 39)
 have a1 := aK.cell (ey w (.slice pp t.ps.length pc) (.slice np t.ns.length nc) 39)
 have b0 := ew (w.alloc (.cells #[.slice pp t.ps.length pc, .slice np t.ns.length nc] 39)) (.slice nA q.ps.length nB) (.slice nC q.ns.length nD) 39
 have b1 := ey (w.alloc (.cells #[.slice pp t.ps.length pc, .slice np t.ns.length nc] 39)) (.slice nA q.ps.length nB) (.slice nC q.ns.length nD) 39
 rw [World.size_alloc] at b0 b1
 have HP := aa (aB.keep hP (hu.kept S))
 have HN := aa (av.keep hN (hu.kept S))
 have Hg := aa (aB.keep fP (hu.kept T))
 have B3 := aa (av.keep fQ (hu.kept T))
 have HU := aa hu
 have A0 := aa a0
 have A1 := aa a1
 have YE := aa b0
 have YF := aa b1
 have CT := aa hne
 have kr := aa (And.intro hp hn)
 clear hP hN fP fQ hu aX aK hne hp hn
 by_cases l0 : t.ps.length = q.ps.length
 rotate_left
 ·have d0 : ((t.ps.length : Int) != (q.ps.length : Int)) = true := bne_iff_ne.2 (by omega)
  go_enter Tryz.func44, Tryz.ntmps44
  go_wp2_with fail
  go_ret
  exact ⟨rfl, HU.out⟩
 by_cases l1 : t.ns.length = q.ns.length
 rotate_left
 ·have d0 : ((t.ps.length : Int) != (q.ps.length : Int)) = false := by rw [l0]; simp
  have d1 : ((t.ns.length : Int) != (q.ns.length : Int)) = true := bne_iff_ne.2 (by omega)
  have L0 := aa l0
  clear l0
  go_enter Tryz.func44, Tryz.ntmps44
  go_wp2_with fail
  go_ret
  exact ⟨rfl, HU.out⟩
 have d0 : ((t.ps.length : Int) != (q.ps.length : Int)) = false := by rw [l0]; simp
 have d1 : ((t.ns.length : Int) != (q.ns.length : Int)) = false := by rw [l1]; simp
 have L0 := aa l0
 have L1 := aa l1
 clear l0 l1
 go_enter Tryz.func44, Tryz.ntmps44
 go_wp2_with fail
 clear a0 a1 b0 b1
 clear d0 d1
 generalize (w.alloc (.cells #[.slice pp t.ps.length pc, .slice np t.ns.length nc] 39)).alloc (.cells #[.slice nA q.ps.length nB, .slice nC q.ns.length nD] 39) = w1 at *
 go_loopw [5] (fun i wr => ∃ k : Nat, k ≤ t.ps.length ∧ i = .int .i64 k ∧ Hid (QD w1 wr) ∧ Hid (∀ j, j < k → gi t.ps j = gi q.ps j)) (fun i _ => t.ps.length - (intOf i).toNat)
 case atStart => exact ⟨0, Nat.zero_le _, rfl, QD.refl _, fun j hj => by omega⟩
 case round =>
  obtain ⟨k, hk, rfl, hQ, hd⟩ := hrel
  have HD := aa hd.out
  clear hd
  have a0 := hQ.out.up.cell A0.out
  have b0 := hQ.out.up.cell YE.out
  by_cases hlt : k < t.ps.length
  ·obtain ⟨b, off, rfl, hc⟩ := eE (aB.keep HP.out (hQ.out.kept S)) hlt
   obtain ⟨b2, off2, rfl, hc2⟩ := eE (aB.keep Hg.out (hQ.out.kept T)) (by rw [← L0.out]; exact hlt)
   have i1 : (0 : Int) ≤ (k : Int) := by omega
   have i2 : (k : Int) < (t.ps.length : Int) := by omega
   have i4 : (k : Int) < (q.ps.length : Int) := by have := L0.out; omega
   have i3 : (k : Int) < 1000000 := by have := kr.out.1; omega
   have aY := aa hlt
   by_cases e : gi t.ps k = gi q.ps k
   ·have j1 : (gi t.ps k != gi q.ps k) = false := by rw [e]; simp
    have HD2 : Hid (∀ j, j < k + 1 → gi t.ps j = gi q.ps j) := fun j hj => by
     by_cases x : j = k
     ·rw [x]; exact e
     ·exact HD.out j (by omega)
    clear e hlt hk
    generalize gi t.ps k = x at *
    generalize gi q.ps k = y at *
    go_wp2_with fail
    go_quiet (fail)
    go_wp2_with fail
    go_roundw
    case rel => exact ⟨k + 1, aY.out, by go_num, hQ.out.drewN nq, HD2.out⟩
    case measure => have := aY.out; simp [intOf]; omega
   ·have j1 : (gi t.ps k != gi q.ps k) = true := bne_iff_ne.2 e
    clear hlt hk
    generalize gi t.ps k = x at *
    generalize gi q.ps k = y at *
    go_wp2_with fail
    go_quiet (fail)
    go_wp2_with fail
    go_ret
    exact ⟨rfl, HU.out.trans (hQ.out.drewN nq).up⟩
  ·obtain rfl : k = t.ps.length := by omega
   have YG := aa hQ.out
   have Qo : Hid (t.ps = q.ps) := WL L0.out HD.out
   have m1 : ¬ (t.ps.length : Int) < (t.ps.length : Int) := by omega
   clear hlt hk
   go_wp2_with fail
   go_loopw [6] (fun i wr => ∃ k : Nat, k ≤ t.ns.length ∧ i = .int .i64 k ∧ Hid (QD w1 wr) ∧ Hid (∀ j, j < k → gs t.ns j = gs q.ns j)) (fun i _ => t.ns.length - (intOf i).toNat)
   case atStart => exact ⟨0, Nat.zero_le _, rfl, YG.out, fun j hj => by omega⟩
   case round =>
    obtain ⟨k, hk, rfl, hQ, hd⟩ := hrel
    have HD := aa hd.out
    clear hd
    have a1 := hQ.out.up.cell A1.out
    have b1 := hQ.out.up.cell YF.out
    by_cases hlt : k < t.ns.length
    ·obtain ⟨b, off, rfl, hc⟩ := cu (av.keep HN.out (hQ.out.kept S)) hlt
     obtain ⟨b2, off2, rfl, hc2⟩ := cu (av.keep B3.out (hQ.out.kept T)) (by rw [← L1.out]; exact hlt)
     have i1 : (0 : Int) ≤ (k : Int) := by omega
     have i2 : (k : Int) < (t.ns.length : Int) := by omega
     have i4 : (k : Int) < (q.ns.length : Int) := by have := L1.out; omega
     have i3 : (k : Int) < 1000000 := by have := kr.out.2; omega
     have aY := aa hlt
     by_cases e : gs t.ns k = gs q.ns k
     ·have j1 : ((gs t.ns k).toList == (gs q.ns k).toList) = true := by rw [e]; simp
      have HD2 : Hid (∀ j, j < k + 1 → gs t.ns j = gs q.ns j) := fun j hj => by
       by_cases x : j = k
       ·rw [x]; exact e
       ·exact HD.out j (by omega)
      clear e hlt hk
      generalize gs t.ns k = x at *
      generalize gs q.ns k = y at *
      go_wp2_with fail
      go_quiet (fail)
      go_wp2_with fail
      go_roundw
      case rel => exact ⟨k + 1, aY.out, by go_num, hQ.out.drewN nq, HD2.out⟩
      case measure => have := aY.out; simp [intOf]; omega
     ·have j1 : ((gs t.ns k).toList == (gs q.ns k).toList) = false := by
       rw [beq_eq_false_iff_ne, toList_data, toList_data]
       exact fun h => e (fc h)
      clear hlt hk e
      generalize gs t.ns k = x at *
      generalize gs q.ns k = y at *
      go_wp2_with fail
      go_quiet (fail)
      go_wp2_with fail
      go_ret
      exact ⟨rfl, HU.out.trans (hQ.out.drewN nq).up⟩
    ·obtain rfl : k = t.ns.length := by omega
     exact absurd (WN Qo.out (WM L1.out HD.out)) CT.out
theorem CU (S T : Nat → Prop) (w : World) (v u : Value) (t q : ax) (h : aC S w v t) (h2 : aC T w u q) (hp : t.ps.length ≤ 1000000) (hn : t.ns.length ≤ 1000000) :
  Calls Tryz.prog 44 #[v, u] w fun e w' => e = .returned (.bool (decide (t = q))) ∧ Up w w' := by
 by_cases e : t = q
 ·subst e
  rw [decide_eq_true rfl]
  exact Hf S T w v u t h h2 hp hn
 ·rw [decide_eq_false e]
  exact KL S T w v u t q h h2 hp hn e
end
section
section
variable {t : ax}
end
end
section
section
variable {t : ax}
def iI (ns : List ByteArray) (a : ByteArray) : Int := bW (fun j => decide (a = gs ns j)) ns.length
theorem Ma {ns : List ByteArray} {a : ByteArray} : a ∈ mS ns ↔ ∃ j, j < ns.length ∧ gs ns j = a ∧ a.size ≠ 0 := by
 unfold mS
 rw [List.mem_filter]
 constructor
 ·rintro ⟨h1, h2⟩
  obtain ⟨j, hj, e⟩ := List.mem_iff_getElem.1 h1
  exact ⟨j, hj, by rw [← e]; simp [gs, hj], of_decide_eq_true h2⟩
 ·rintro ⟨j, hj, e, h2⟩
  refine ⟨?_, decide_eq_true h2⟩
  have : gs ns j = ns[j] := by simp [gs, hj]
  rw [← e, this]; exact List.getElem_mem hj
end
section
variable {t : ax} {la : Nat}
end
end
section
section
variable {t : ax}
end
end
section
section
variable {F : aP} {n : Nat} {rk : Nat → Nat} {P : Nat → Bool} {m : Nat} {cost : Nat → Nat → Int} {bg : ByteArray → Int}
theorem y6 (h : Wf F n rk) {Q : Nat → Prop} (step : ∀ z, z < n → (∀ k ∈ F.kids z, Q k) → Q z) : ∀ z, z < n → Q z := by
 have key : ∀ d z, rk z ≤ d → z < n → Q z := by
  intro d
  induction d with
  | zero => intro z hd hz; exact step z hz fun k hk => by have := (h.kid z hz k hk).2; omega
  | succ d ih => intro z hd hz; exact step z hz fun k hk => by have := h.kid z hz k hk; exact ih k (by omega) this.1
 exact fun z hz => key _ z (Nat.le_refl _) hz
theorem Tt (M : mq m cost) (h : Wf F n rk) (hP : ∀ z, z < n → F.kids z = [] → P z = false → bg (F.nm z) < 0) : ∀ z, z < n → al F P rk z = false → ∀ s, s < m → AttR m cost bg (aG F rk z) s 0 := by
 refine y6 h fun z hz IH ha s hs => ?_
 rw [bA h hz, bS]
 rw [jx h hz] at ha
 by_cases h0 : F.kids z = []
 ·rw [if_pos h0] at ha
  have := hP z hz h0 ha
  refine ⟨hs, fun _ h1 => by omega, ?_⟩
  rw [h0]; exact eZ.2 rfl
 ·rw [if_neg h0] at ha
  refine ⟨hs, fun e => absurd (List.map_eq_nil_iff.1 e) h0, ?_⟩
  have key : ∀ l : List Nat, (∀ k ∈ l, AttR m cost bg (aG F rk k) s 0) → AttL m cost bg (l.map (aG F rk)) s 0 := fun l => by
   induction l with
   | nil => intro _; exact eZ.2 rfl
   | cons k l ih => intro hk; exact aU.2 ⟨s, 0, 0, hk k (by simp), ih (fun k hk' => hk k (by simp [hk'])), by have := M.z s hs; omega⟩
  refine key _ fun k hk => IH k hk ?_ s hs
  cases e : al F P rk k with
  | false => rfl
  | true => rw [List.any_eq_false] at ha; exact absurd e (ha k hk)
theorem Tu (M : mq m cost) (h : Wf F n rk) {i : Nat} : ∀ z, z < n → aM F rk i z = true → i < n → al F P rk z = true → ∀ s c, AttR m cost bg (aG F rk z) s c → ∃ c', AttR m cost bg (aG (F.sub rk (gY F P rk) i) rk z) s c' ∧ c' ≤ c := by
 refine y6 h fun z hz IH hsz hi ha s c hc => ?_
 rw [bA h hz, bS] at hc
 rw [bA (jy h i) hz, lZ hsz]
 obtain ⟨hs, hl, hk⟩ := hc
 have key : ∀ l : List Nat, (∀ k ∈ l, k ∈ F.kids z) → ∀ c, AttL m cost bg (l.map (aG F rk)) s c → ∃ c', AttL m cost bg ((l.filter (al F P rk)).map (aG (F.sub rk (gY F P rk) i) rk)) s c' ∧ c' ≤ c := fun l => by
  induction l with
  | nil => intro _ c h; exact ⟨c, h, Int.le_refl _⟩
  | cons k l ih =>
   intro hm c hc
   obtain ⟨u, a, b, h1, h2, rfl⟩ := aU.1 hc
   obtain ⟨b', h3, h4⟩ := ih (fun k hk => hm k (by simp [hk])) b h2
   have hkm := hm k (by simp)
   have hkn := (h.kid z hz k hkm).1
   by_cases e : al F P rk k = true
   ·obtain ⟨a', h5, h6⟩ := IH k hkm (dV h hi (Nat.le_refl _) hsz (bz h hz hkm (aN h hkn))) hi e u a h1
    rw [List.filter_cons, if_pos e]
    exact ⟨cost s u + a' + b', aU.2 ⟨u, a', b', h5, h3, rfl⟩, by omega⟩
   ·rw [List.filter_cons, if_neg e]
    refine ⟨b', h3, ?_⟩
    have := M.nn s u hs (cZ h1)
    have := LH M _ _ _ h1
    omega
 obtain ⟨c', h1, h2⟩ := key _ (fun k hk => hk) c hk
 refine ⟨c', bS.2 ⟨hs, fun e => ?_, h1⟩, h2⟩
 rw [List.map_eq_nil_iff] at e
 by_cases h0 : F.kids z = []
 ·exact hl (by rw [h0]; rfl)
 ·rw [jx h hz, if_neg h0] at ha
  obtain ⟨k, hk2, hka⟩ := List.any_eq_true.1 ha
  have : k ∈ (F.kids z).filter (al F P rk) := List.mem_filter.2 ⟨hk2, hka⟩
  rw [e] at this; cases this
theorem Tv (M : mq m cost) (h : Wf F n rk) (hP : ∀ z, z < n → F.kids z = [] → P z = false → bg (F.nm z) < 0) {i : Nat} : ∀ z, z < n → aM F rk i z = true → i < n → ∀ s c, AttR m cost bg (aG (F.sub rk (gY F P rk) i) rk z) s c → AttR m cost bg (aG F rk z) s c := by
 refine y6 h fun z hz IH hsz hi s c hc => ?_
 rw [bA (jy h i) hz, lZ hsz, bS] at hc
 rw [bA h hz, bS]
 obtain ⟨hs, hl, hk⟩ := hc
 have key : ∀ l : List Nat, (∀ k ∈ l, k ∈ F.kids z) → ∀ c, AttL m cost bg ((l.filter (al F P rk)).map (aG (F.sub rk (gY F P rk) i) rk)) s c → AttL m cost bg (l.map (aG F rk)) s c := fun l => by
  induction l with
  | nil => intro _ c h; exact h
  | cons k l ih =>
   intro hm c hc
   have hkm := hm k (by simp)
   have hkn := (h.kid z hz k hkm).1
   have hsk := dV h hi (Nat.le_refl _) hsz (bz h hz hkm (aN h hkn))
   by_cases e : al F P rk k = true
   ·rw [List.filter_cons, if_pos e] at hc
    obtain ⟨u, a, b, h1, h2, rfl⟩ := aU.1 hc
    exact aU.2 ⟨u, a, b, IH k hkm hsk hi u a h1, ih (fun k hk => hm k (by simp [hk])) b h2, rfl⟩
   ·rw [List.filter_cons, if_neg e] at hc
    refine aU.2 ⟨s, 0, c, Tt M h hP k hkn (by simpa using e) s hs, ih (fun k hk => hm k (by simp [hk])) c hc, ?_⟩
    have := M.z s hs
    omega
 exact ⟨hs, fun e => hl (by rw [List.map_eq_nil_iff] at e ⊢; rw [e]; rfl), key _ (fun k hk => hk) c hk⟩
end
section
variable {t : ax} {leaf m : Nat} {cost : Nat → Nat → Int} {bg : ByteArray → Int}
theorem NH {z : Nat} (hz : z < t.ps.length) : (bI t leaf).nm z = gs t.ns z := upd_ne _ _ (by omega)
theorem rr_off (h : aR t leaf) : ∀ z, z < t.ps.length → cg t leaf z = false → aG (bI t leaf) (eM t leaf) z = aG (dy t) (bY t) z := by
 have hw := (cK h.te).wf
 refine y6 hw fun z hz IH ho => ?_
 rw [bA hw hz, bA (fR h).wf (by omega), NH hz]
 have hk : (bI t leaf).kids z = aQ t.ps z := by
  show iA t leaf z = _
  unfold iA
  rw [if_neg (by omega), if_neg (fun e => by rw [ho] at e; exact absurd e.1 (by decide))]
 rw [hk, gJ]
 show RT.node (gs t.ns z) _ = RT.node (gs t.ns z) _
 congr 1
 refine List.map_congr_left fun k hk => IH k hk ?_
 cases e : cg t leaf k with
 | false => rfl
 | true =>
  obtain ⟨_, h2, h3⟩ := bf.1 hk
  rw [h.mH e (by omega) h3] at ho; cases ho
theorem NI (h : aR t leaf) : aG (bI t leaf) (eM t leaf) leaf = aG (dy t) (bY t) leaf := by
 have := h.lt
 rw [bA (cK h.te).wf h.lt, bA (fR h).wf (by omega), NH h.lt, yT h, gJ, h.CA]; rfl
theorem QK (h : aR t leaf) {z c : Nat} (hz : z < t.ps.length) (hc : c < t.ps.length) (vI : z < c) (hp : gi t.ps c = (z : Int)) (ho : cg t leaf c = true) : (aQ t.ps z).Perm (c :: (aQ t.ps z).filter (fun k => !cg t leaf k)) := by
 have fk := (cK h.te).nodup z hz
 rw [gJ] at fk
 refine (List.perm_ext_iff_of_nodup fk ?_).2 fun k => ?_
 ·rw [List.nodup_cons]
  exact ⟨fun e => by { have h1 := (List.mem_filter.1 e).2; rw [ho] at h1; simp at h1 }, fk.filter _⟩
 ·rw [List.mem_cons, List.mem_filter]
  constructor
  ·intro hk
   by_cases e : cg t leaf k = true
   ·obtain ⟨_, h2, h3⟩ := bf.1 hk
    exact .inl (h.vE e ho h2 vI h3 hp)
   ·exact .inr ⟨hk, by simpa using e⟩
  ·rintro (rfl | ⟨hk, _⟩)
   ·exact bf.2 ⟨hc, vI, hp⟩
   ·exact hk
theorem Tw (M : mq m cost) (Br : ∀ x : ByteArray, x.size = 0 → bg x < 0) (h : aR t leaf) : ∀ (d z c : Nat), z ≤ d → z < t.ps.length → c < t.ps.length → z < c → gi t.ps c = (z : Int) → cg t leaf c = true → ∀ v,
  (∃ s, AttR m cost bg (dU t) s v) ↔ DD m cost bg (aG (dy t) (bY t) c) (aG (bI t leaf) (eM t leaf) z) v := by
 intro d
 have hw := (cK h.te).wf
 have gen : ∀ z c, z < t.ps.length → c < t.ps.length → z < c → gi t.ps c = (z : Int) → cg t leaf c = true →
   aG (dy t) (bY t) z = .node (gs t.ns z) ((aQ t.ps z).map (aG (dy t) (bY t))) ∧
   ((aQ t.ps z).map (aG (dy t) (bY t))).Perm (aG (dy t) (bY t) c :: ((aQ t.ps z).filter (fun k => !cg t leaf k)).map (aG (dy t) (bY t))) ∧
   aG (bI t leaf) (eM t leaf) z = .node (gs t.ns z) (((aQ t.ps z).filter (fun k => !cg t leaf k)).map (aG (dy t) (bY t)) ++ (if z = 0 then [] else [aG (bI t leaf) (eM t leaf) (gi t.ps z).toNat])) ∧ cg t leaf z = true := by
  intro z c hz hc vI hp ho
  have Fv : cg t leaf z = true := h.mH ho (by omega) hp
  have hne : z ≠ leaf := fun e => by
   have h1 := h.oD ho; omega
  refine ⟨?_, ?_, ?_, Fv⟩
  ·rw [bA hw hz]; rfl
  ·exact (QK h hz hc vI hp ho).map _
  ·rw [bA (fR h).wf (by omega), NH hz]
   have hk : (bI t leaf).kids z = (aQ t.ps z).filter (fun k => !cg t leaf k) ++ (if z = 0 then [] else [(gi t.ps z).toNat]) := by
    show iA t leaf z = _
    unfold iA
    rw [if_neg (by omega), if_pos ⟨Fv, hne⟩]
   rw [hk, List.map_append]
   congr 2
   ·refine List.map_congr_left fun k hk => ?_
    have hk := List.mem_filter.1 hk
    exact rr_off h k (bf.1 hk.1).1 (by simpa using hk.2)
   ·split <;> rfl
 induction d with
 | zero =>
  intro z c hd hz hc vI hp ho v
  obtain ⟨g1, g2, g3, _⟩ := gen z c hz hc vI hp ho
  obtain rfl : z = 0 := by omega
  rw [if_pos rfl, List.append_nil] at g3
  rw [g3]
  unfold dU
  rw [g1]
  exact Fh M g2 (fun _ => Br _ (kG h.te hc vI hp)) v
 | succ d ih =>
  intro z c hd hz hc vI hp ho v
  obtain ⟨g1, g2, g3, Fv⟩ := gen z c hz hc vI hp ho
  by_cases h0 : z = 0
  ·subst h0
   rw [if_pos rfl, List.append_nil] at g3
   rw [g3]
   unfold dU
   rw [g1]
   exact Fh M g2 (fun _ => Br _ (kG h.te hc vI hp)) v
  ·obtain ⟨q, hq, hqz⟩ := h.par hz h0
   rw [if_neg h0, hq, Int.toNat_natCast] at g3
   rw [ih q z (by omega) (by omega) hz hqz hq Fv v, g3, g1]
   exact S4 M g2 v
theorem rr_top (h : aR t leaf) : aG (bI t leaf) (eM t leaf) t.ps.length = .node ByteArray.empty (aG (dy t) (bY t) leaf :: (if leaf = 0 then [] else [aG (bI t leaf) (eM t leaf) (gi t.ps leaf).toNat])) := by
 rw [bA (fR h).wf (Nat.lt_succ_self _)]
 have hk : (bI t leaf).kids t.ps.length = leaf :: (if leaf = 0 then [] else [(gi t.ps leaf).toNat]) := by
  show iA t leaf t.ps.length = _
  unfold iA
  rw [if_pos rfl]
 have hn : (bI t leaf).nm t.ps.length = ByteArray.empty := if_pos rfl
 rw [hk, hn, List.map_cons, NI h]
 congr 2
 split <;> rfl
theorem rr_att (M : mq m cost) (Br : ∀ x : ByteArray, x.size = 0 → bg x < 0) (h : aR t leaf) :
  (∀ s c, AttR m cost bg (dU t) s c → ∃ u c', AttR m cost bg (aG (bI t leaf) (eM t leaf) t.ps.length) u c' ∧ c' ≤ c) ∧
  (∀ s c, AttR m cost bg (aG (bI t leaf) (eM t leaf) t.ps.length) s c → ∃ u c', AttR m cost bg (dU t) u c' ∧ c' ≤ c) := by
 rw [rr_top h]
 by_cases h0 : leaf = 0
 ·subst h0
  rw [if_pos rfl]
  constructor
  ·intro s c hc
   have hs := cZ hc
   exact ⟨s, c, bS.2 ⟨hs, fun e => (by cases e), aU.2 ⟨s, c, 0, hc, eZ.2 rfl, by have := M.z s hs; omega⟩⟩, Int.le_refl _⟩
  ·intro s c hc
   rw [bS] at hc
   obtain ⟨u, a, b, h1, h2, rfl⟩ := aU.1 hc.2.2
   rw [eZ] at h2; subst h2
   exact ⟨u, a, h1, by have := M.nn s u hc.1 (cZ h1); omega⟩
 ·obtain ⟨q, hq, hql⟩ := h.par h.lt h0
  have hlt := h.lt
  rw [if_neg h0, hq, Int.toNat_natCast]
  have hv := Tw M Br h q q leaf (Nat.le_refl _) (by omega) h.lt hql hq h.pV
  constructor
  ·intro s c hc
   obtain ⟨u, h1⟩ := S5 (nm := ByteArray.empty) M ((hv c).1 ⟨s, hc⟩)
   exact ⟨u, c, h1, Int.le_refl _⟩
  ·intro s c hc
   obtain ⟨c', h1, h2⟩ := S6 M hc
   obtain ⟨u, h3⟩ := (hv c').2 h1
   exact ⟨u, c', h3, h2⟩
theorem Mb (M : mq m cost) (Br : ∀ x : ByteArray, x.size = 0 → bg x < 0) (h : aR t leaf) :
  (∀ s c, AttR m cost bg (dU t) s c → ∃ u c', AttR m cost bg (jJ t leaf) u c' ∧ c' ≤ c) ∧
  (∀ s c, AttR m cost bg (jJ t leaf) s c → ∃ u c', AttR m cost bg (dU t) u c' ∧ c' ≤ c) := by
 have hw := (fR h).wf
 have hn : t.ps.length < t.ps.length + 1 := Nat.lt_succ_self _
 have hP : ∀ z, z < t.ps.length + 1 → (bI t leaf).kids z = [] → xM t leaf z = false → bg ((bI t leaf).nm z) < 0 := fun z _ _ hp => Br _ (by
  have := of_decide_eq_false hp
  exact Classical.not_not.1 this)
 obtain ⟨a1, a2⟩ := rr_att M Br h
 constructor
 ·intro s c hc
  obtain ⟨u, c1, h1, h2⟩ := a1 s c hc
  obtain ⟨c2, h3, h4⟩ := Tu (P := xM t leaf) M hw _ hn (aN hw hn) hn (pW h).1 u c1 h1
  obtain ⟨v, c3, h5, h6⟩ := Ba M _ _ (Nat.le_refl _) u c2 h3
  refine ⟨v, c3, (wT _ _ _).2 h5, ?_⟩
  have hu := cZ h1
  have := h6 u hu
  have := M.z u hu
  have := M.nn u v hu (cZ h5)
  omega
 ·intro s c hc
  have h1 := Bb M _ _ (Nat.le_refl _) s c ((wT _ _ _).1 hc)
  have h2 := Tv (P := xM t leaf) M hw hP _ hn (aN hw hn) hn s c h1
  exact a2 s c h2
end
section
variable {t : ax} {st : List Int} {cs : List (List Int)} {bg : ByteArray → Int}
theorem Mc (hv : Valid t st cs) (hl : ∀ i, i < t.ps.length → aQ t.ps i = [] → bg (gs t.ns i) = nT t.ns st i) : ∀ z, z < t.ps.length → ∀ s, s < cs.length →
  (∀ c, AttR cs.length (gM cs) bg (aG (dy t) (bY t) z) s c → 0 ≤ l9 t st cs z s ∧ l9 t st cs z s ≤ c) ∧ (0 ≤ l9 t st cs z s → AttR cs.length (gM cs) bg (aG (dy t) (bY t) z) s (l9 t st cs z s)) := by
 have hw := (cK hv.tree).wf
 obtain ⟨_, _, _, m4, _⟩ := uv hv.T7
 have NJ : ∀ s, ∀ j, j < cs.length → 0 ≤ gM cs s j ∧ gM cs s j ≤ 1000 := fun s j _ => m4 s j
 have Dg : ∀ s k, iK t st cs s k = (bG (gM cs s) (gi (aV t st cs k)) cs.length).1 := fun s k => by unfold iK; rw [gj]; rfl
 refine y6 hw fun z hz IH s hs => ?_
 rw [gJ] at IH
 rw [bA hw hz, K0 t st cs hz s, gJ]
 show (∀ c, AttR cs.length (gM cs) bg (.node (gs t.ns z) _) s c → _) ∧ (_ → AttR cs.length (gM cs) bg (.node (gs t.ns z) _) s _)
 simp only [bS]
 have key1 : ∀ l : List Nat, (∀ k ∈ l, k ∈ aQ t.ps z) → ∀ c, AttL cs.length (gM cs) bg (l.map (aG (dy t) (bY t))) s c → (l.map (iK t st cs s)).sum ≤ c := fun l => by
  induction l with
  | nil => intro _ c h; rw [List.map_nil, eZ] at h; subst h; simp
  | cons k l ih =>
   intro hm c hc
   obtain ⟨u, a, b, h1, h2, rfl⟩ := aU.1 hc
   have hkm := hm k (by simp)
   have h3 := ih (fun k hk => hm k (by simp [hk])) b h2
   obtain ⟨h4, h5⟩ := (IH k hkm u (cZ h1)).1 a h1
   obtain ⟨o, _, _, _, _, h6, _⟩ := zh hv (NJ s) (bf.1 hkm).1
   have h7 := h6 u (cZ h1) (by rw [eF t st cs k (cZ h1)]; exact h4)
   rw [eF t st cs k (cZ h1), ← Dg] at h7
   rw [List.map_cons, List.sum_cons]
   omega
 have key2 : ∀ l : List Nat, (∀ k ∈ l, k ∈ aQ t.ps z) → AttL cs.length (gM cs) bg (l.map (aG (dy t) (bY t))) s ((l.map (iK t st cs s)).sum) ∧ 0 ≤ (l.map (iK t st cs s)).sum := fun l => by
  induction l with
  | nil => intro _; exact ⟨eZ.2 rfl, by simp⟩
  | cons k l ih =>
   intro hm
   have hkm := hm k (by simp)
   obtain ⟨h2, h3⟩ := ih fun k hk => hm k (by simp [hk])
   obtain ⟨o, _, h4, h5, h6, _, _⟩ := zh hv (NJ s) (bf.1 hkm).1
   rw [eF t st cs k h4] at h5 h6
   rw [← Dg] at h6
   rw [List.map_cons, List.map_cons, List.sum_cons]
   have := (NJ s o h4).1
   exact ⟨aU.2 ⟨o, l9 t st cs k o, _, (IH k hkm o h4).2 h5, h2, by omega⟩, by omega⟩
 obtain ⟨k2, k3⟩ := key2 _ fun k hk => hk
 have k1 := key1 _ fun k hk => hk
 by_cases h0 : aQ t.ps z = []
 ·rw [h0] at k1 k2 k3 ⊢
  have hlz := hl z hz h0
  rw [hlz]
  unfold eG
  simp only [List.map_nil, List.sum_nil, eZ] at *
  constructor
  ·rintro c ⟨_, h1, h2⟩
   have h1 := h1 trivial
   rw [if_neg (fun e => e.2 (h1 e.1))]; omega
  ·intro h1
   refine ⟨hs, fun _ h2 => ?_, ?_⟩
   ·by_cases e : nT t.ns st z = (s : Int)
    ·exact e
    ·rw [if_pos ⟨h2, e⟩] at h1; omega
   ·split at h1
    ·omega
    ·rw [if_neg (by assumption)]; rfl
 ·have hown : nT t.ns st z = -1 := by
   obtain ⟨c, hc⟩ := List.exists_mem_of_ne_nil _ h0
   obtain ⟨c1, c2, c3⟩ := bf.1 hc
   exact hv.fine.leaf z c c1 c2 c3
  have hb : eG t st z s = 0 := by unfold eG; rw [if_neg (by omega)]
  rw [hb, Int.zero_add]
  exact ⟨fun c ⟨_, _, h3⟩ => ⟨k3, k1 c h3⟩, fun _ => ⟨hs, fun e => absurd (List.map_eq_nil_iff.1 e) h0, k2⟩⟩
theorem FB (hv : Valid t st cs) (hl : ∀ i, i < t.ps.length → aQ t.ps i = [] → bg (gs t.ns i) = nT t.ns st i) :
  (∃ s, AttR cs.length (gM cs) bg (dU t) s (cE t st cs)) ∧ ∀ s c, AttR cs.length (gM cs) bg (dU t) s c → cE t st cs ≤ c := by
 have hp := (aH hv.tree).1
 have hsc : cE t st cs = (bG (fun _ => 0) (gi (aV t st cs 0)) cs.length).1 := by unfold cE; rw [if_pos hv.par]
 obtain ⟨o, _, h4, h5, h6, h7, _⟩ := zh hv (c := fun _ => 0) (fun j _ => ⟨Int.le_refl _, by omega⟩) hp
 rw [← hsc] at h6 h7
 rw [eF t st cs 0 h4] at h5 h6
 constructor
 ·refine ⟨o, ?_⟩
  rw [h6, Int.zero_add]
  exact (Mc hv hl 0 hp o h4).2 h5
 ·intro s c hc
  have hs := cZ hc
  obtain ⟨a1, a2⟩ := (Mc hv hl 0 hp s hs).1 c hc
  have := h7 s hs (by rw [eF t st cs 0 hs]; exact a1)
  rw [eF t st cs 0 hs] at this
  omega
theorem QL (he : az t = 0) {i : Nat} (hi : i < t.ps.length) (hk : aQ t.ps i = []) : aR t i := ⟨he, hi, lU (qm he hi hk)⟩
end
section
variable {t : ax} {st : List Int} {cs : List (List Int)} {leaf : Nat}
theorem KM {ns : List ByteArray} {j : Nat} (hj : j < ns.length) (h0 : (gs ns j).size ≠ 0) : 0 ≤ gw ns j := by
 have hm : (j : Int) ∈ ay ns := uw.2 ⟨j, rfl, hj, h0⟩
 obtain ⟨i, hi, e⟩ := Oi hm
 unfold gw
 have := mA (fun i => decide ((j : Int) = gi (ay ns) i)) (ay ns).length
 rw [uL hi (decide_eq_true e.symm)] at this
 exact of_decide_eq_true this
end
end
section
def DU (t : ax) (names : List ByteArray) : Bool := (List.range (ay t.ns).length).any fun j => decide (iI names (gs t.ns (gi (ay t.ns) j).toNat) < 0)
structure mZ (t : ax) (names : List ByteArray) : Prop where
 te : az t = 0
 le : names.length ≤ 32
 nd : ∀ j k, j < k → k < names.length → gs names k ≠ gs names j
 len : (ay t.ns).length = names.length
 has : ∀ j, j < t.ps.length → (gs t.ns j).size ≠ 0 → ∃ b : Nat, b < names.length ∧ gs names b = gs t.ns j
theorem F9 {names : List ByteArray} {a : ByteArray} : 0 ≤ iI names a ↔ ∃ b, b < names.length ∧ gs names b = a := by
 constructor
 ·intro h
  obtain ⟨k, hk⟩ := Int.eq_ofNat_of_zero_le h
  obtain ⟨h1, h2, _⟩ := r8 hk
  exact ⟨k, h1, (of_decide_eq_true h2).symm⟩
 ·rintro ⟨b, hb, e⟩
  have hany : (List.range names.length).any (fun j => decide (a = gs names j)) = true := List.any_eq_true.2 ⟨b, List.mem_range.2 hb, decide_eq_true e.symm⟩
  rw [← mA] at hany
  exact of_decide_eq_true hany
theorem nd_inj {names : List ByteArray} (h : ∀ j k, j < k → k < names.length → gs names k ≠ gs names j) {a b : Nat} (ha : a < names.length) (hb : b < names.length) (e : gs names a = gs names b) : a = b := by
 rcases Nat.lt_trichotomy a b with c | c | c
 ·exact absurd e.symm (h a b c hb)
 ·exact c
 ·exact absurd e (h b a c ha)
theorem fd_of {names : List ByteArray} (h : ∀ j k, j < k → k < names.length → gs names k ≠ gs names j) {b : Nat} (hb : b < names.length) : iI names (gs names b) = (b : Int) := by
 have h1 : 0 ≤ iI names (gs names b) := F9.2 ⟨b, hb, rfl⟩
 obtain ⟨k, hk⟩ := Int.eq_ofNat_of_zero_le h1
 obtain ⟨h2, h3, _⟩ := r8 hk
 have h3 := of_decide_eq_true h3
 rw [hk]
 have := nd_inj h h2 hb h3.symm
 rw [this]
section
variable {t : ax} {names : List ByteArray}
end
end
section
section
variable {names : List ByteArray} {l : List (List Int)}
end
end
section
section
variable {t : ax} {names : List ByteArray}
end
end
section
open Go.RowKit Go.Deep
end
section
section
variable {names : List ByteArray} {l : List (List Int)}
end
end
section
open Go.RowKit Go.Deep Go.Sort
end
end Go.Proofs.YteegefnjnikngaaGreat
