/- The contract of layer 32's reference's Distance. The contract of layer 31's reference's SameTree, at any trees; Same. The walk of SplitBack. The walk of PhylotreeReads. A list of groups that came in, opened. -/
import Derived.Test.YtpnmblnahjjmhaaGreatQ1
import Derived.Test.YtpnmblnahjjmhaaGreatQ49
import Derived.Test.YtpnmblnahjjmhaaGreatQ39
import Derived.Test.YtpnmblnahjjmhaaGreatQ20
import Derived.Test.YtpnmblnahjjmhaaGreatQ19
import Derived.Test.YtpnmblnahjjmhaaGreatQ26
import Derived.Test.YtpnmblnahjjmhaaGreatQ50
import Derived.Test.YtpnmblnahjjmhaaGreatQ3
import Derived.Deep.RegionHeld3
import Derived.Test.YtpnmblnahjjmhaaGreatQ11
namespace Go.Proofs.YtpnmblnahjjmhaaGreat
set_option maxRecDepth 100000
section
open Go.RowKit Go.Deep
theorem xk (l : List (List Int)) (s : List Int) : l.contains s = sS l s := by
 rw [Bool.eq_iff_iff, List.contains_iff_mem, SL]
set_option maxHeartbeats 2000000 in
theorem Fe (S : Nat → Prop) (w : World) (v v2 vs : Value) (t u : aJ) (names : List ByteArray) (hT : aO S w v t) (hU : aO S w v2 u) (hV : aG S w vs names) (hp : t.ps.length ≤ 1000000) (hn : t.ns.length ≤ 1000000) (hz : ∀ k, (gs t.ns k).size ≤ 70000) (hp2 : u.ps.length ≤ 1000000) (hn2 : u.ns.length ≤ 1000000) (iR : ∀ k, (gs u.ns k).size ≤ 70000) (hnl : names.length ≤ 1000000) :
  Calls Tryz.prog 38 #[v, v2, vs] w fun e w' => e = .returned (.tuple #[.int .i64 (xh t u names : Int), .int .i64 (jt t u names)]) ∧ Up w w' := by
 have HE : Hid (jt t u names = if aT t names ≠ 0 then aT t names else aT u names) := rfl
 have HN : Hid (xh t u names = if jt t u names = 0 then er (aI t names) (aI u names) + er (aI u names) (aI t names) else 0) := rfl
 have Ir : Hid (∀ W, Up w W → Calls Tryz.prog 33 #[v, vs] W (oS W t names)) := fun W hW => Dr S S W v vs t names (hT.keep (hW.kept _)) (aG.keep hV (hW.kept _)) hp hn hz hnl
 have yF : Hid (∀ W, Up w W → Calls Tryz.prog 33 #[v2, vs] W (oS W u names)) := fun W hW => Dr S S W v2 vs u names (hU.keep (hW.kept _)) (aG.keep hV (hW.kept _)) hp2 hn2 iR hnl
 have nW : Hid ((aI t names).length ≤ 1000000 ∧ ∀ k, (gl (aI t names) k).length ≤ 1000000) := ⟨Nat.le_trans (pV t names) hp, fun k => Nat.le_trans (sZ t names k) (by decide)⟩
 have jS : Hid ((aI u names).length ≤ 1000000 ∧ ∀ k, (gl (aI u names) k).length ≤ 1000000) := ⟨Nat.le_trans (pV u names) hp2, fun k => Nat.le_trans (sZ u names k) (by decide)⟩
 have gU : Hid (er (aI t names) (aI u names) ≤ 1000000) := Nat.le_trans (zh _ _) nW.out.1
 have Co : Hid (er (aI u names) (aI t names) ≤ 1000000) := Nat.le_trans (zh _ _) jS.out.1
 obtain ⟨P, N, rfl, hP, hN⟩ := hT
 obtain ⟨P2, N2, rfl, lJ, mP⟩ := hU
 obtain ⟨mp, mc, rfl, -, -⟩ := aC.open hV
 have cK := (Up.alloc w (.cells #[P, N] 39)).trans (Up.alloc _ (.cells #[P2, N2] 39))
 have hsz : (w.alloc (.cells #[P, N] 39)).heap.size = w.heap.size + 1 := by simp
 have a0 := (Up.alloc (w.alloc (.cells #[P, N] 39)) (.cells #[P2, N2] 39)).cell (dg w P N 39)
 have a1 := (Up.alloc (w.alloc (.cells #[P, N] 39)) (.cells #[P2, N2] 39)).cell (dy w P N 39)
 have c0 := dg (w.alloc (.cells #[P, N] 39)) P2 N2 39
 have c1 := dy (w.alloc (.cells #[P, N] 39)) P2 N2 39
 rw [hsz] at c0 c1
 have eD := ag cK
 have HA := ag (⟨a0, a1, c0, c1⟩ : _ ∧ _ ∧ _ ∧ _)
 clear hP hN lJ mP hV cK hsz a0 a1 c0 c1
 aq Tryz.func38, Tryz.ntmps38
 aa fail
 generalize (w.alloc (.cells #[P, N] 39)).alloc (.cells #[P2, N2] 39) = w1 at *
 obtain ⟨a0, a1, c0, c1⟩ := HA.out
 refine (Ir.out w1 eD.out).mono ?_
 rintro e w2 ⟨aL, r1, rfl, jg⟩
 have c0 := aL.cell c0
 have c1 := aL.cell c1
 have cM := ag (eD.out.trans aL)
 have yj := ag jg
 clear aL jg a0 a1 Ir eD HA
 by_cases e1 : aT t names = 0
 ·have kT : Hid (jt t u names = aT u names) := by unfold Hid; rw [HE.out, if_neg (fun e => e e1)]
  rw [e1]
  clear e1 HE
  aa fail
  refine (yF.out w2 cM.out).mono ?_
  rintro e w3 ⟨cL, r2, rfl, jW⟩
  have dI := ag (cM.out.trans cL)
  have Ae := ag jW
  have yG := ag (aR.keep yj.out (cL.kept _))
  clear cL jW c0 c1 yF cM yj
  by_cases e2 : aT u names = 0
  ·have HX : Hid (jt t u names = 0 ∧ xh t u names = er (aI t names) (aI u names) + er (aI u names) (aI t names)) := ⟨kT.out.trans e2, by rw [HN.out, if_pos (kT.out.trans e2)]⟩
   rw [e2]
   clear e2 kT HN
   obtain ⟨p1, c1, rfl, -, -⟩ := dF yG.out
   obtain ⟨p2, c2, rfl, -, -⟩ := dF Ae.out
   aa fail
   aV [11, 12] (fun c i wr => ∃ k : Nat, k ≤ (aI t names).length ∧ i = .int .i64 k ∧ c = .int .i64 ((onlyK (aI t names) (aI u names) k : Nat) : Int) ∧ Hid (Up w3 wr)) (fun _ i _ => (aI t names).length - (intOf i).toNat)
   case atStart => exact ⟨0, Nat.zero_le _, rfl, rfl, Up.refl _⟩
   case round =>
    obtain ⟨k, hk, rfl, rfl, hU⟩ := bE
    obtain ⟨wo, rfl⟩ : ∃ wo : World, wo = wr := ⟨_, rfl⟩
    by_cases hlt : k < (aI t names).length
    case pos =>
     have HHA := ag (aR.keep Ae.out (hU.out.kept _))
     obtain ⟨ab, ao, x, c, rfl, hc, hi⟩ := eX (aR.keep yG.out (hU.out.kept _)) hlt
     have yV := ag (La Any Any wo _ _ (aI u names) (gl (aI t names) k) HHA.out hi jS.out.1 jS.out.2 (nW.out.2 k))
     have gu : Hid (onlyK (aI t names) (aI u names) (k + 1) = onlyK (aI t names) (aI u names) k + if sS (aI u names) (gl (aI t names) k) then 0 else 1) := rfl
     have Jn := ag (xk (aI u names) (gl (aI t names) k))
     rw [Jn.out] at yV
     have aU := ag hlt
     have ic := ag hU.out
     have k1 : (0 : Int) ≤ (k : Int) := Int.natCast_nonneg _
     have k2 : (k : Int) < ((aI t names).length : Int) := by omega
     have k4 : (k : Int) < 1000000 := by have := nW.out.1; omega
     have hle := sU (aI t names) (aI u names) k
     have k3 : (((onlyK (aI t names) (aI u names) k : Nat)) : Int) ≤ 2000000 := by have := gU.out; have := Co.out; have := nW.out.1; omega
     clear hi hlt hk hU hle
     cases hb : sS (aI u names) (gl (aI t names) k)
     ·rw [hb] at yV gu
      have nR : Hid (((onlyK (aI t names) (aI u names) (k + 1) : Nat) : Int) = ((onlyK (aI t names) (aI u names) k : Nat) : Int) + 1) := by unfold Hid; rw [gu.out]; simp; try omega
      clear hb gu Jn
      generalize (onlyK (aI t names) (aI u names) k : Nat) = cc at *
      aa fail
      refine yV.out.mono ?_
      rintro e w' ⟨rfl, nq, rfl⟩
      aa fail
      aF
      case rel => exact ⟨k + 1, aU.out, by aH, by rw [nR.out], ic.out.trans (Up.drewN _ nq)⟩
      case measure => have := aU.out; simp [intOf]; omega
     ·rw [hb] at yV gu
      have nR : Hid (((onlyK (aI t names) (aI u names) (k + 1) : Nat) : Int) = ((onlyK (aI t names) (aI u names) k : Nat) : Int)) := by unfold Hid; rw [gu.out]; simp
      clear hb gu Jn
      generalize (onlyK (aI t names) (aI u names) k : Nat) = cc at *
      aa fail
      refine yV.out.mono ?_
      rintro e w' ⟨rfl, nq, rfl⟩
      aa fail
      aF
      case rel => exact ⟨k + 1, aU.out, by aH, by rw [nR.out], ic.out.trans (Up.drewN _ nq)⟩
      case measure => have := aU.out; simp [intOf]; omega
    case neg =>
     obtain rfl : k = (aI t names).length := by omega
     obtain ⟨w4, rfl⟩ : ∃ w4 : World, w4 = wo := ⟨_, rfl⟩
     have gd := ag (dI.out.trans hU.out)
     have HR1b := ag (aR.keep yG.out (hU.out.kept _))
     have HR2b := ag (aR.keep Ae.out (hU.out.kept _))
     have vi : Hid (onlyK (aI t names) (aI u names) (aI t names).length = er (aI t names) (aI u names)) := rfl
     rw [vi.out]
     have i1 : ¬ (((aI t names).length : Nat) : Int) < (((aI t names).length : Nat) : Int) := by omega
     clear hk hlt hU yG Ae vi
     aa fail
     aV [11, 13] (fun c i wr => ∃ k : Nat, k ≤ (aI u names).length ∧ i = .int .i64 k ∧ c = .int .i64 ((er (aI t names) (aI u names) + onlyK (aI u names) (aI t names) k : Nat) : Int) ∧ Hid (Up w4 wr)) (fun _ i _ => (aI u names).length - (intOf i).toNat)
     case atStart => exact ⟨0, Nat.zero_le _, rfl, rfl, Up.refl _⟩
     case round =>
      obtain ⟨k, hk, rfl, rfl, hU⟩ := bE
      obtain ⟨wo, rfl⟩ : ∃ wo : World, wo = wr := ⟨_, rfl⟩
      by_cases hlt : k < (aI u names).length
      case pos =>
       have HHA := ag (aR.keep HR1b.out (hU.out.kept _))
       obtain ⟨ab, ao, x, c, rfl, hc, hi⟩ := eX (aR.keep HR2b.out (hU.out.kept _)) hlt
       have yV := ag (La Any Any wo _ _ (aI t names) (gl (aI u names) k) HHA.out hi nW.out.1 nW.out.2 (jS.out.2 k))
       have gu : Hid (onlyK (aI u names) (aI t names) (k + 1) = onlyK (aI u names) (aI t names) k + if sS (aI t names) (gl (aI u names) k) then 0 else 1) := rfl
       have Jn := ag (xk (aI t names) (gl (aI u names) k))
       rw [Jn.out] at yV
       have aU := ag hlt
       have ic := ag hU.out
       have k1 : (0 : Int) ≤ (k : Int) := Int.natCast_nonneg _
       have k2 : (k : Int) < ((aI u names).length : Int) := by omega
       have k4 : (k : Int) < 1000000 := by have := jS.out.1; omega
       have hle := sU (aI u names) (aI t names) k
       have k3 : (((er (aI t names) (aI u names) + onlyK (aI u names) (aI t names) k : Nat)) : Int) ≤ 2000000 := by have := gU.out; have := Co.out; have := jS.out.1; omega
       clear hi hlt hk hU hle
       cases hb : sS (aI t names) (gl (aI u names) k)
       ·rw [hb] at yV gu
        have nR : Hid (((er (aI t names) (aI u names) + onlyK (aI u names) (aI t names) (k + 1) : Nat) : Int) = ((er (aI t names) (aI u names) + onlyK (aI u names) (aI t names) k : Nat) : Int) + 1) := by unfold Hid; rw [gu.out]; simp; try omega
        clear hb gu Jn
        generalize (er (aI t names) (aI u names) + onlyK (aI u names) (aI t names) k : Nat) = cc at *
        aa fail
        refine yV.out.mono ?_
        rintro e w' ⟨rfl, nq, rfl⟩
        aa fail
        aF
        case rel => exact ⟨k + 1, aU.out, by aH, by rw [nR.out], ic.out.trans (Up.drewN _ nq)⟩
        case measure => have := aU.out; simp [intOf]; omega
       ·rw [hb] at yV gu
        have nR : Hid (((er (aI t names) (aI u names) + onlyK (aI u names) (aI t names) (k + 1) : Nat) : Int) = ((er (aI t names) (aI u names) + onlyK (aI u names) (aI t names) k : Nat) : Int)) := by unfold Hid; rw [gu.out]; simp
        clear hb gu Jn
        generalize (er (aI t names) (aI u names) + onlyK (aI u names) (aI t names) k : Nat) = cc at *
        aa fail
        refine yV.out.mono ?_
        rintro e w' ⟨rfl, nq, rfl⟩
        aa fail
        aF
        case rel => exact ⟨k + 1, aU.out, by aH, by rw [nR.out], ic.out.trans (Up.drewN _ nq)⟩
        case measure => have := aU.out; simp [intOf]; omega
      case neg =>
       obtain rfl : k = (aI u names).length := by omega
       have ij := ag (gd.out.trans hU.out)
       have vi : Hid (onlyK (aI u names) (aI t names) (aI u names).length = er (aI u names) (aI t names)) := rfl
       rw [vi.out]
       have i2 : ¬ (((aI u names).length : Nat) : Int) < (((aI u names).length : Nat) : Int) := by omega
       clear hk hlt hU vi
       generalize er (aI t names) (aI u names) + er (aI u names) (aI t names) = z at *
       aa fail
       exact ⟨rfl, .tuple #[.int .i64 (z : Int), .int .i64 0], by simp [results, Tryz.results38, go_sem], by rw [HX.out.1, HX.out.2], ij.out⟩
  ·have HX : Hid (jt t u names = aT u names ∧ xh t u names = 0) := ⟨kT.out, by rw [HN.out, if_neg (by rw [kT.out]; exact e2)]⟩
   have d1 : (aT u names != 0) = true := by simpa using e2
   clear e2 kT HN
   generalize aT u names = z at *
   aa fail
   exact ⟨rfl, .tuple #[.int .i64 0, .int .i64 z], by simp [results, Tryz.results38, go_sem], by rw [HX.out.1, HX.out.2]; rfl, dI.out⟩
 ·have HX : Hid (jt t u names = aT t names ∧ xh t u names = 0) := ⟨by rw [HE.out, if_pos e1], by rw [HN.out, if_neg (by rw [HE.out, if_pos e1]; exact e1)]⟩
  have d1 : (aT t names != 0) = true := by simpa using e1
  clear e1 HE HN
  generalize aT t names = z at *
  aa fail
  exact ⟨rfl, .tuple #[.int .i64 0, .int .i64 z], by simp [results, Tryz.results38, go_sem], by rw [HX.out.1, HX.out.2]; rfl, cM.out⟩
end
section
open Go.RowKit Go.Deep
theorem Wk {a b : List Int} (hl : a.length = b.length) (h : ∀ k, k < a.length → gi a k = gi b k) : a = b := by
 refine List.ext_getElem hl fun k h1 h2 => ?_
 have := h k h1
 simpa [gi, h1, h2] using this
theorem Wl {a b : List ByteArray} (hl : a.length = b.length) (h : ∀ k, k < a.length → gs a k = gs b k) : a = b := by
 refine List.ext_getElem hl fun k h1 h2 => ?_
 have := h k h1
 simpa [gs, h1, h2] using this
theorem Wm {t u : aJ} (h1 : t.ps = u.ps) (h2 : t.ns = u.ns) : t = u := by
 cases t; cases u
 simp only at h1 h2
 rw [h1, h2]
set_option maxHeartbeats 4000000 in
theorem JR (S T : Nat → Prop) (w : World) (v u : Value) (t q : aJ) (h : aO S w v t) (h2 : aO T w u q) (hp : t.ps.length ≤ 1000000) (hn : t.ns.length ≤ 1000000) (hne : t ≠ q) :
  Calls Tryz.prog 36 #[v, u] w fun e w' => e = .returned (.bool false) ∧ Up w w' := by
 obtain ⟨P, N, rfl, hP, hN⟩ := h
 obtain ⟨P2, N2, rfl, lJ, mP⟩ := h2
 obtain ⟨pp, pc, rfl, _, _⟩ := aC.open hP
 obtain ⟨np, nc, rfl, _, _⟩ := aC.open hN
 obtain ⟨jZ, j0, rfl, _, _⟩ := aC.open lJ
 obtain ⟨kG, kH, rfl, _, _⟩ := aC.open mP
 have hP : an S w (.slice pp t.ps.length pc) t.ps := hP
 have hN : aG S w (.slice np t.ns.length nc) t.ns := hN
 have lJ : an T w (.slice jZ q.ps.length j0) q.ps := lJ
 have mP : aG T w (.slice kG q.ns.length kH) q.ns := mP
 have cK := Up.alloc w (.cells #[.slice pp t.ps.length pc, .slice np t.ns.length nc] 39)
 have aL := Up.alloc (w.alloc (.cells #[.slice pp t.ps.length pc, .slice np t.ns.length nc] 39)) (.cells #[.slice jZ q.ps.length j0, .slice kG q.ns.length kH] 39)
 have hu := cK.trans aL
 have a0 := aL.cell (dg w (.slice pp t.ps.length pc) (.slice np t.ns.length nc) 39)
 have a1 := aL.cell (dy w (.slice pp t.ps.length pc) (.slice np t.ns.length nc) 39)
 have b0 := dg (w.alloc (.cells #[.slice pp t.ps.length pc, .slice np t.ns.length nc] 39)) (.slice jZ q.ps.length j0) (.slice kG q.ns.length kH) 39
 have b1 := dy (w.alloc (.cells #[.slice pp t.ps.length pc, .slice np t.ns.length nc] 39)) (.slice jZ q.ps.length j0) (.slice kG q.ns.length kH) 39
 rw [World.size_alloc] at b0 b1
 have HP := ag (an.keep hP (hu.kept S))
 have HN := ag (aG.keep hN (hu.kept S))
 have XV := ag (an.keep lJ (hu.kept T))
 have tC := ag (aG.keep mP (hu.kept T))
 have HU := ag hu
 have A0 := ag a0
 have A1 := ag a1
 have XW := ag b0
 have XX := ag b1
 have IG := ag hne
 have jk := ag (And.intro hp hn)
 clear hP hN lJ mP hu cK aL hne hp hn
 by_cases l0 : t.ps.length = q.ps.length
 JS
 ·have d0 : ((t.ps.length : Int) != (q.ps.length : Int)) = true := bne_iff_ne.2 (by omega)
  aq Tryz.func36, Tryz.ntmps36
  aa fail
  ax
  exact ⟨rfl, HU.out⟩
 by_cases l1 : t.ns.length = q.ns.length
 JS
 ·have d0 : ((t.ps.length : Int) != (q.ps.length : Int)) = false := by rw [l0]; simp
  have d1 : ((t.ns.length : Int) != (q.ns.length : Int)) = true := bne_iff_ne.2 (by omega)
  have L0 := ag l0
  clear l0
  aq Tryz.func36, Tryz.ntmps36
  aa fail
  ax
  exact ⟨rfl, HU.out⟩
 have d0 : ((t.ps.length : Int) != (q.ps.length : Int)) = false := by rw [l0]; simp
 have d1 : ((t.ns.length : Int) != (q.ns.length : Int)) = false := by rw [l1]; simp
 have L0 := ag l0
 have L1 := ag l1
 clear l0 l1
 aq Tryz.func36, Tryz.ntmps36
 aa fail
 clear a0 a1 b0 b1
 clear d0 d1
 generalize (w.alloc (.cells #[.slice pp t.ps.length pc, .slice np t.ns.length nc] 39)).alloc (.cells #[.slice jZ q.ps.length j0, .slice kG q.ns.length kH] 39) = w1 at *
 aV [5] (fun i wr => ∃ k : Nat, k ≤ t.ps.length ∧ i = .int .i64 k ∧ Hid (QD w1 wr) ∧ Hid (∀ j, j < k → gi t.ps j = gi q.ps j)) (fun i _ => t.ps.length - (intOf i).toNat)
 case atStart => exact ⟨0, Nat.zero_le _, rfl, QD.refl _, fun j hj => by omega⟩
 case round =>
  obtain ⟨k, hk, rfl, hQ, hd⟩ := bE
  have HD := ag hd.out
  clear hd
  have a0 := hQ.out.up.cell A0.out
  have b0 := hQ.out.up.cell XW.out
  by_cases hlt : k < t.ps.length
  ·obtain ⟨b, off, rfl, hc⟩ := bV (an.keep HP.out (hQ.out.kept S)) hlt
   obtain ⟨b2, off2, rfl, fJ⟩ := bV (an.keep XV.out (hQ.out.kept T)) (by rw [← L0.out]; exact hlt)
   have i1 : (0 : Int) ≤ (k : Int) := by omega
   have i2 : (k : Int) < (t.ps.length : Int) := by omega
   have i4 : (k : Int) < (q.ps.length : Int) := by have := L0.out; omega
   have i3 : (k : Int) < 1000000 := by have := jk.out.1; omega
   have aU := ag hlt
   by_cases e : gi t.ps k = gi q.ps k
   ·have j1 : (gi t.ps k != gi q.ps k) = false := by rw [e]; simp
    have Qf : Hid (∀ j, j < k + 1 → gi t.ps j = gi q.ps j) := fun j hj => by
     by_cases x : j = k
     ·rw [x]; exact e
     ·exact HD.out j (by omega)
    clear e hlt hk
    generalize gi t.ps k = x at *
    generalize gi q.ps k = y at *
    aa fail
    fP (fail)
    aa fail
    aF
    case rel => exact ⟨k + 1, aU.out, by aH, hQ.out.drewN nq, Qf.out⟩
    case measure => have := aU.out; simp [intOf]; omega
   ·have j1 : (gi t.ps k != gi q.ps k) = true := bne_iff_ne.2 e
    clear hlt hk
    generalize gi t.ps k = x at *
    generalize gi q.ps k = y at *
    aa fail
    fP (fail)
    aa fail
    ax
    exact ⟨rfl, HU.out.trans (hQ.out.drewN nq).up⟩
  ·obtain rfl : k = t.ps.length := by omega
   have XY := ag hQ.out
   have HPS : Hid (t.ps = q.ps) := Wk L0.out HD.out
   have m1 : ¬ (t.ps.length : Int) < (t.ps.length : Int) := by omega
   clear hlt hk
   aa fail
   aV [6] (fun i wr => ∃ k : Nat, k ≤ t.ns.length ∧ i = .int .i64 k ∧ Hid (QD w1 wr) ∧ Hid (∀ j, j < k → gs t.ns j = gs q.ns j)) (fun i _ => t.ns.length - (intOf i).toNat)
   case atStart => exact ⟨0, Nat.zero_le _, rfl, XY.out, fun j hj => by omega⟩
   case round =>
    obtain ⟨k, hk, rfl, hQ, hd⟩ := bE
    have HD := ag hd.out
    clear hd
    have a1 := hQ.out.up.cell A1.out
    have b1 := hQ.out.up.cell XX.out
    by_cases hlt : k < t.ns.length
    ·obtain ⟨b, off, rfl, hc⟩ := dh (aG.keep HN.out (hQ.out.kept S)) hlt
     obtain ⟨b2, off2, rfl, fJ⟩ := dh (aG.keep tC.out (hQ.out.kept T)) (by rw [← L1.out]; exact hlt)
     have i1 : (0 : Int) ≤ (k : Int) := by omega
     have i2 : (k : Int) < (t.ns.length : Int) := by omega
     have i4 : (k : Int) < (q.ns.length : Int) := by have := L1.out; omega
     have i3 : (k : Int) < 1000000 := by have := jk.out.2; omega
     have aU := ag hlt
     by_cases e : gs t.ns k = gs q.ns k
     ·have j1 : ((gs t.ns k).toList == (gs q.ns k).toList) = true := by rw [e]; simp
      have Qf : Hid (∀ j, j < k + 1 → gs t.ns j = gs q.ns j) := fun j hj => by
       by_cases x : j = k
       ·rw [x]; exact e
       ·exact HD.out j (by omega)
      clear e hlt hk
      generalize gs t.ns k = x at *
      generalize gs q.ns k = y at *
      aa fail
      fP (fail)
      aa fail
      aF
      case rel => exact ⟨k + 1, aU.out, by aH, hQ.out.drewN nq, Qf.out⟩
      case measure => have := aU.out; simp [intOf]; omega
     ·have j1 : ((gs t.ns k).toList == (gs q.ns k).toList) = false := by
       rw [beq_eq_false_iff_ne, toList_data, toList_data]
       exact fun h => e (uD h)
      clear hlt hk e
      generalize gs t.ns k = x at *
      generalize gs q.ns k = y at *
      aa fail
      fP (fail)
      aa fail
      ax
      exact ⟨rfl, HU.out.trans (hQ.out.drewN nq).up⟩
    ·obtain rfl : k = t.ns.length := by omega
     exact absurd (Wm HPS.out (Wl L1.out HD.out)) IG.out
theorem Nu (S T : Nat → Prop) (w : World) (v u : Value) (t q : aJ) (h : aO S w v t) (h2 : aO T w u q) (hp : t.ps.length ≤ 1000000) (hn : t.ns.length ≤ 1000000) :
  Calls Tryz.prog 36 #[v, u] w fun e w' => e = .returned (.bool (decide (t = q))) ∧ Up w w' := by
 by_cases e : t = q
 ·subst e
  rw [decide_eq_true rfl]
  exact GH S T w v u t h h2 hp hn
 ·rw [decide_eq_false e]
  exact JR S T w v u t q h h2 hp hn e
end
section
open Go.RowKit Go.Deep Go.Sort
theorem Nw {names : List ByteArray} {l : List (List Int)} (h : dJ names l = 0) : (cr names l).ps.length ≤ 64 ∧ (cr names l).ns.length ≤ 64 ∧ ∀ k, (gs (cr names l).ns k).size ≤ 70000 := by
 obtain ⟨_, _, ht⟩ := TX h
 obtain ⟨_, h1, h2, _, _⟩ := aP ht
 exact ⟨h1, by omega, Mu ht⟩
end
section
open Go.RowKit Go.Deep
end
section
open Go.ChangeShapes Go.WideShapes Go.ChangeAt Go.RowKit Go.Deep
instance : Inhabited DO := ⟨⟨0, 0, []⟩⟩
section
variable {H : Type} {enc : TypeId × Value → H} {W : World}
theorem Nx {v : Value} {d : DataW H} {p : List MemPlace} {base : Nat} (hv : Value.okWide Tryz.prog W .any base 22 v) (h : DataW.Trod enc Tryz.prog W 0 (fun _ => true) true 22 v d p) : ∃ xs : List ByteArray, aG Any W v xs ∧ xs.length ≤ 9223372036854775807 ∧ ∀ k, (gs xs k).size ≤ 9223372036854775807 := by
 obtain ⟨a, l, c, rfl⟩ := okWide_slice Tryz.underlying22 hv
 obtain ⟨n, hn⟩ := Jk rfl h
 exact CG hn
end
end
end Go.Proofs.YtpnmblnahjjmhaaGreat
