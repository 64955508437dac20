/- The contract of layer 32's reference's Distance. The contract of layer 31's reference's .. -/
import Derived.Test.YtpnmblnahjjmhaaGreatQ1
import Derived.Test.YtpnmblnahjjmhaaGreatQ50
import Derived.Test.YtpnmblnahjjmhaaGreatQ40
import Derived.Test.YtpnmblnahjjmhaaGreatQ20
import Derived.Test.YtpnmblnahjjmhaaGreatQ19
import Derived.Test.YtpnmblnahjjmhaaGreatQ27
import Derived.Test.YtpnmblnahjjmhaaGreatQ51
import Derived.Test.YtpnmblnahjjmhaaGreatQ3
import Derived.Deep.RegionHeld3
import Derived.Test.YtpnmblnahjjmhaaGreatQ11
set_option maxRecDepth 100000
namespace Go.Proofs.YtpnmblnahjjmhaaGreat
section
open Go.RowKit Go.Deep
theorem wP (l : List (List Int)) (s : List Int) : l.contains s = r8 l s := by
 rw [Bool.eq_iff_iff, List.contains_iff_mem, SM]
set_option maxHeartbeats 2000000 in
theorem E8 (S : Nat → Prop) (w : World) (v v2 vs : Value) (t u : aA) (names : List ByteArray) (hT : aG S w v t) (hU : aG S w v2 u) (hV : ay S w vs names) (hp : t.ps.length ≤ 1000000) (hn : t.ns.length ≤ 1000000) (hz : ∀ k, (gs t.ns k).size ≤ 70000) (hp2 : u.ps.length ≤ 1000000) (hn2 : u.ns.length ≤ 1000000) (hz2 : ∀ k, (gs u.ns k).size ≤ 70000) (hnl : names.length ≤ 1000000) :
  Calls Tryz.prog 38 #[v, v2, vs] w fun e w' => e = .returned (.tuple #[.int .i64 (wO t u names : Int), .int .i64 (iQ t u names)]) ∧ Up w w' := by
 have HE : Hid (iQ t u names = if aL t names ≠ 0 then aL t names else aL u names) := rfl
 have HN : Hid (wO t u names = if iQ t u names = 0 then dA (az t names) (az u names) + dA (az u names) (az t names) else 0) := rfl
 have Io : Hid (∀ W, Up w W → Calls Tryz.prog 33 #[v, vs] W (nW W t names)) := fun W hW => Dg S S W v vs t names (hT.keep (hW.kept _)) (ay.keep hV (hW.kept _)) hp hn hz hnl
 have yh : Hid (∀ W, Up w W → Calls Tryz.prog 33 #[v2, vs] W (nW W u names)) := fun W hW => Dg S S W v2 vs u names (hU.keep (hW.kept _)) (ay.keep hV (hW.kept _)) hp2 hn2 hz2 hnl
 have mZ : Hid ((az t names).length ≤ 1000000 ∧ ∀ k, (gl (az t names) k).length ≤ 1000000) := ⟨Nat.le_trans (oM t names) hp, fun k => Nat.le_trans (sr t names k) (by decide)⟩
 have jr : Hid ((az u names).length ≤ 1000000 ∧ ∀ k, (gl (az u names) k).length ≤ 1000000) := ⟨Nat.le_trans (oM u names) hp2, fun k => Nat.le_trans (sr u names k) (by decide)⟩
 have gz : Hid (dA (az t names) (az u names) ≤ 1000000) := Nat.le_trans (yU _ _) mZ.out.1
 have Ce : Hid (dA (az u names) (az t names) ≤ 1000000) := Nat.le_trans (yU _ _) jr.out.1
 obtain ⟨P, N, rfl, hP, hN⟩ := hT
 obtain ⟨P2, N2, rfl, kK, lR⟩ := hU
 obtain ⟨mp, mc, rfl, -, -⟩ := av.open hV
 have bO := (Up.alloc w (.cells #[P, N] 39)).trans (Up.alloc _ (.cells #[P2, N2] 39))
 have hsz : (w.alloc (.cells #[P, N] 39)).heap.size = w.heap.size + 1 := by simp
 have a0 := (Up.alloc (w.alloc (.cells #[P, N] 39)) (.cells #[P2, N2] 39)).cell (cB w P N 39)
 have a1 := (Up.alloc (w.alloc (.cells #[P, N] 39)) (.cells #[P2, N2] 39)).cell (cI w P N 39)
 have c0 := cB (w.alloc (.cells #[P, N] 39)) P2 N2 39
 have c1 := cI (w.alloc (.cells #[P, N] 39)) P2 N2 39
 rw [hsz] at c0 c1
 have dJ := aa bO
 have HA := aa (⟨a0, a1, c0, c1⟩ : _ ∧ _ ∧ _ ∧ _)
 clear hP hN kK lR hV bO hsz a0 a1 c0 c1
 go_enter Tryz.func38, Tryz.ntmps38
 go_wp2_with fail
 generalize (w.alloc (.cells #[P, N] 39)).alloc (.cells #[P2, N2] 39) = w1 at *
 obtain ⟨a0, a1, c0, c1⟩ := HA.out
 refine (Io.out w1 dJ.out).mono ?_
 rintro e w2 ⟨aC, r1, rfl, hr1⟩
 have c0 := aC.cell c0
 have c1 := aC.cell c1
 have bU := aa (dJ.out.trans aC)
 have xU := aa hr1
 clear aC hr1 a0 a1 Io dJ HA
 by_cases e1 : aL t names = 0
 ·have jZ : Hid (iQ t u names = aL u names) := by unfold Hid; rw [HE.out, if_neg (fun e => e e1)]
  rw [e1]
  clear e1 HE
  go_wp2_with fail
  refine (yh.out w2 bU.out).mono ?_
  rintro e w3 ⟨bR, r2, rfl, hr2⟩
  have cR := aa (bU.out.trans bR)
  have zQ := aa hr2
  have yj := aa (aJ.keep xU.out (bR.kept _))
  clear bR hr2 c0 c1 yh bU xU
  by_cases e2 : aL u names = 0
  ·have HX : Hid (iQ t u names = 0 ∧ wO t u names = dA (az t names) (az u names) + dA (az u names) (az t names)) := ⟨jZ.out.trans e2, by rw [HN.out, if_pos (jZ.out.trans e2)]⟩
   rw [e2]
   clear e2 jZ HN
   obtain ⟨p1, c1, rfl, -, -⟩ := cN yj.out
   obtain ⟨p2, c2, rfl, -, -⟩ := cN zQ.out
   go_wp2_with fail
   go_loopw [11, 12] (fun c i wr => ∃ k : Nat, k ≤ (az t names).length ∧ i = .int .i64 k ∧ c = .int .i64 ((onlyK (az t names) (az u names) k : Nat) : Int) ∧ Hid (Up w3 wr)) (fun _ i _ => (az t names).length - (intOf i).toNat)
   case atStart => exact ⟨0, Nat.zero_le _, rfl, rfl, Up.refl _⟩
   case round =>
    obtain ⟨k, hk, rfl, rfl, hU⟩ := hrel
    obtain ⟨wo, rfl⟩ : ∃ wo : World, wo = wr := ⟨_, rfl⟩
    by_cases hlt : k < (az t names).length
    case pos =>
     have HHA := aa (aJ.keep zQ.out (hU.out.kept _))
     obtain ⟨ab, ao, x, c, rfl, hc, hi⟩ := dX (aJ.keep yj.out (hU.out.kept _)) hlt
     have yF := aa (K7 Any Any wo _ _ (az u names) (gl (az t names) k) HHA.out hi jr.out.1 jr.out.2 (mZ.out.2 k))
     have fI : Hid (onlyK (az t names) (az u names) (k + 1) = onlyK (az t names) (az u names) k + if r8 (az u names) (gl (az t names) k) then 0 else 1) := rfl
     have Jo := aa (wP (az u names) (gl (az t names) k))
     rw [Jo.out] at yF
     have aM := aa hlt
     have gF := aa hU.out
     have k1 : (0 : Int) ≤ (k : Int) := Int.natCast_nonneg _
     have k2 : (k : Int) < ((az t names).length : Int) := by omega
     have k4 : (k : Int) < 1000000 := by have := mZ.out.1; omega
     have hle := r9 (az t names) (az u names) k
     have k3 : (((onlyK (az t names) (az u names) k : Nat)) : Int) ≤ 2000000 := by have := gz.out; have := Ce.out; have := mZ.out.1; omega
     clear hi hlt hk hU hle
     cases hb : r8 (az u names) (gl (az t names) k)
     ·rw [hb] at yF fI
      have mU : Hid (((onlyK (az t names) (az u names) (k + 1) : Nat) : Int) = ((onlyK (az t names) (az u names) k : Nat) : Int) + 1) := by unfold Hid; rw [fI.out]; simp; try omega
      clear hb fI Jo
      generalize (onlyK (az t names) (az u names) k : Nat) = cc at *
      go_wp2_with fail
      refine yF.out.mono ?_
      rintro e w' ⟨rfl, nq, rfl⟩
      go_wp2_with fail
      go_roundw
      case rel => exact ⟨k + 1, aM.out, by go_num, by rw [mU.out], gF.out.trans (Up.drewN _ nq)⟩
      case measure => have := aM.out; simp [intOf]; omega
     ·rw [hb] at yF fI
      have mU : Hid (((onlyK (az t names) (az u names) (k + 1) : Nat) : Int) = ((onlyK (az t names) (az u names) k : Nat) : Int)) := by unfold Hid; rw [fI.out]; simp
      clear hb fI Jo
      generalize (onlyK (az t names) (az u names) k : Nat) = cc at *
      go_wp2_with fail
      refine yF.out.mono ?_
      rintro e w' ⟨rfl, nq, rfl⟩
      go_wp2_with fail
      go_roundw
      case rel => exact ⟨k + 1, aM.out, by go_num, by rw [mU.out], gF.out.trans (Up.drewN _ nq)⟩
      case measure => have := aM.out; simp [intOf]; omega
    case neg =>
     obtain rfl : k = (az t names).length := by omega
     obtain ⟨w4, rfl⟩ : ∃ w4 : World, w4 = wo := ⟨_, rfl⟩
     have fB := aa (cR.out.trans hU.out)
     have HR1b := aa (aJ.keep yj.out (hU.out.kept _))
     have HR2b := aa (aJ.keep zQ.out (hU.out.kept _))
     have uM : Hid (onlyK (az t names) (az u names) (az t names).length = dA (az t names) (az u names)) := rfl
     rw [uM.out]
     have i1 : ¬ (((az t names).length : Nat) : Int) < (((az t names).length : Nat) : Int) := by omega
     clear hk hlt hU yj zQ uM
     go_wp2_with fail
     go_loopw [11, 13] (fun c i wr => ∃ k : Nat, k ≤ (az u names).length ∧ i = .int .i64 k ∧ c = .int .i64 ((dA (az t names) (az u names) + onlyK (az u names) (az t names) k : Nat) : Int) ∧ Hid (Up w4 wr)) (fun _ i _ => (az u names).length - (intOf i).toNat)
     case atStart => exact ⟨0, Nat.zero_le _, rfl, rfl, Up.refl _⟩
     case round =>
      obtain ⟨k, hk, rfl, rfl, hU⟩ := hrel
      obtain ⟨wo, rfl⟩ : ∃ wo : World, wo = wr := ⟨_, rfl⟩
      by_cases hlt : k < (az u names).length
      case pos =>
       have HHA := aa (aJ.keep HR1b.out (hU.out.kept _))
       obtain ⟨ab, ao, x, c, rfl, hc, hi⟩ := dX (aJ.keep HR2b.out (hU.out.kept _)) hlt
       have yF := aa (K7 Any Any wo _ _ (az t names) (gl (az u names) k) HHA.out hi mZ.out.1 mZ.out.2 (jr.out.2 k))
       have fI : Hid (onlyK (az u names) (az t names) (k + 1) = onlyK (az u names) (az t names) k + if r8 (az t names) (gl (az u names) k) then 0 else 1) := rfl
       have Jo := aa (wP (az t names) (gl (az u names) k))
       rw [Jo.out] at yF
       have aM := aa hlt
       have gF := aa hU.out
       have k1 : (0 : Int) ≤ (k : Int) := Int.natCast_nonneg _
       have k2 : (k : Int) < ((az u names).length : Int) := by omega
       have k4 : (k : Int) < 1000000 := by have := jr.out.1; omega
       have hle := r9 (az u names) (az t names) k
       have k3 : (((dA (az t names) (az u names) + onlyK (az u names) (az t names) k : Nat)) : Int) ≤ 2000000 := by have := gz.out; have := Ce.out; have := jr.out.1; omega
       clear hi hlt hk hU hle
       cases hb : r8 (az t names) (gl (az u names) k)
       ·rw [hb] at yF fI
        have mU : Hid (((dA (az t names) (az u names) + onlyK (az u names) (az t names) (k + 1) : Nat) : Int) = ((dA (az t names) (az u names) + onlyK (az u names) (az t names) k : Nat) : Int) + 1) := by unfold Hid; rw [fI.out]; simp; try omega
        clear hb fI Jo
        generalize (dA (az t names) (az u names) + onlyK (az u names) (az t names) k : Nat) = cc at *
        go_wp2_with fail
        refine yF.out.mono ?_
        rintro e w' ⟨rfl, nq, rfl⟩
        go_wp2_with fail
        go_roundw
        case rel => exact ⟨k + 1, aM.out, by go_num, by rw [mU.out], gF.out.trans (Up.drewN _ nq)⟩
        case measure => have := aM.out; simp [intOf]; omega
       ·rw [hb] at yF fI
        have mU : Hid (((dA (az t names) (az u names) + onlyK (az u names) (az t names) (k + 1) : Nat) : Int) = ((dA (az t names) (az u names) + onlyK (az u names) (az t names) k : Nat) : Int)) := by unfold Hid; rw [fI.out]; simp
        clear hb fI Jo
        generalize (dA (az t names) (az u names) + onlyK (az u names) (az t names) k : Nat) = cc at *
        go_wp2_with fail
        refine yF.out.mono ?_
        rintro e w' ⟨rfl, nq, rfl⟩
        go_wp2_with fail
        go_roundw
        case rel => exact ⟨k + 1, aM.out, by go_num, by rw [mU.out], gF.out.trans (Up.drewN _ nq)⟩
        case measure => have := aM.out; simp [intOf]; omega
      case neg =>
       obtain rfl : k = (az u names).length := by omega
       have gH := aa (fB.out.trans hU.out)
       have uM : Hid (onlyK (az u names) (az t names) (az u names).length = dA (az u names) (az t names)) := rfl
       rw [uM.out]
       have i2 : ¬ (((az u names).length : Nat) : Int) < (((az u names).length : Nat) : Int) := by omega
       clear hk hlt hU uM
       generalize dA (az t names) (az u names) + dA (az u names) (az t names) = z at *
       go_wp2_with fail
       exact ⟨rfl, .tuple #[.int .i64 (z : Int), .int .i64 0], by simp [results, Tryz.results38, go_sem], by rw [HX.out.1, HX.out.2], gH.out⟩
  ·have HX : Hid (iQ t u names = aL u names ∧ wO t u names = 0) := ⟨jZ.out, by rw [HN.out, if_neg (by rw [jZ.out]; exact e2)]⟩
   have d1 : (aL u names != 0) = true := by simpa using e2
   clear e2 jZ HN
   generalize aL u names = z at *
   go_wp2_with fail
   exact ⟨rfl, .tuple #[.int .i64 0, .int .i64 z], by simp [results, Tryz.results38, go_sem], by rw [HX.out.1, HX.out.2]; rfl, cR.out⟩
 ·have HX : Hid (iQ t u names = aL t names ∧ wO t u names = 0) := ⟨by rw [HE.out, if_pos e1], by rw [HN.out, if_neg (by rw [HE.out, if_pos e1]; exact e1)]⟩
  have d1 : (aL t names != 0) = true := by simpa using e1
  clear e1 HE HN
  generalize aL t names = z at *
  go_wp2_with fail
  exact ⟨rfl, .tuple #[.int .i64 0, .int .i64 z], by simp [results, Tryz.results38, go_sem], by rw [HX.out.1, HX.out.2]; rfl, bU.out⟩
end
section
open Go.RowKit Go.Deep
theorem Wm {a b : List Int} (hl : a.length = b.length) (h : ∀ k, k < a.length → gi a k = gi b k) : a = b := by
 refine List.ext_getElem hl fun k h1 h2 => ?_
 have := h k h1
 simpa [gi, h1, h2] using this
theorem Wn {a b : List ByteArray} (hl : a.length = b.length) (h : ∀ k, k < a.length → gs a k = gs b k) : a = b := by
 refine List.ext_getElem hl fun k h1 h2 => ?_
 have := h k h1
 simpa [gs, h1, h2] using this
theorem Wo {t u : aA} (h1 : t.ps = u.ps) (h2 : t.ns = u.ns) : t = u := by
 cases t; cases u
 simp only at h1 h2
 rw [h1, h2]
set_option maxHeartbeats 4000000 in
theorem JS (S T : Nat → Prop) (w : World) (v u : Value) (t q : aA) (h : aG S w v t) (h2 : aG T w u q) (hp : t.ps.length ≤ 1000000) (hn : t.ns.length ≤ 1000000) (hne : t ≠ q) :
  Calls Tryz.prog 36 #[v, u] w fun e w' => e = .returned (.bool false) ∧ Up w w' := by
 obtain ⟨P, N, rfl, hP, hN⟩ := h
 obtain ⟨P2, N2, rfl, kK, lR⟩ := h2
 obtain ⟨pp, pc, rfl, _, _⟩ := av.open hP
 obtain ⟨np, nc, rfl, _, _⟩ := av.open hN
 obtain ⟨jy, jA, rfl, _, _⟩ := av.open kK
 obtain ⟨jO, jP, rfl, _, _⟩ := av.open lR
 have hP : af S w (.slice pp t.ps.length pc) t.ps := hP
 have hN : ay S w (.slice np t.ns.length nc) t.ns := hN
 have kK : af T w (.slice jy q.ps.length jA) q.ps := kK
 have lR : ay T w (.slice jO q.ns.length jP) q.ns := lR
 have bO := Up.alloc w (.cells #[.slice pp t.ps.length pc, .slice np t.ns.length nc] 39)
 have aC := Up.alloc (w.alloc (.cells #[.slice pp t.ps.length pc, .slice np t.ns.length nc] 39)) (.cells #[.slice jy q.ps.length jA, .slice jO q.ns.length jP] 39)
 have hu := bO.trans aC
 have a0 := aC.cell (cB w (.slice pp t.ps.length pc) (.slice np t.ns.length nc) 39)
 have a1 := aC.cell (cI w (.slice pp t.ps.length pc) (.slice np t.ns.length nc) 39)
 have b0 := cB (w.alloc (.cells #[.slice pp t.ps.length pc, .slice np t.ns.length nc] 39)) (.slice jy q.ps.length jA) (.slice jO q.ns.length jP) 39
 have b1 := cI (w.alloc (.cells #[.slice pp t.ps.length pc, .slice np t.ns.length nc] 39)) (.slice jy q.ps.length jA) (.slice jO q.ns.length jP) 39
 rw [World.size_alloc] at b0 b1
 have HP := aa (af.keep hP (hu.kept S))
 have HN := aa (ay.keep hN (hu.kept S))
 have XY := aa (af.keep kK (hu.kept T))
 have sV := aa (ay.keep lR (hu.kept T))
 have HU := aa hu
 have A0 := aa a0
 have A1 := aa a1
 have XZ := aa b0
 have X0 := aa b1
 have II := aa hne
 have iL := aa (And.intro hp hn)
 clear hP hN kK lR hu bO aC hne hp hn
 by_cases l0 : t.ps.length = q.ps.length
 rotate_left
 ·have d0 : ((t.ps.length : Int) != (q.ps.length : Int)) = true := bne_iff_ne.2 (by omega)
  go_enter Tryz.func36, Tryz.ntmps36
  go_wp2_with fail
  go_ret
  exact ⟨rfl, HU.out⟩
 by_cases l1 : t.ns.length = q.ns.length
 rotate_left
 ·have d0 : ((t.ps.length : Int) != (q.ps.length : Int)) = false := by rw [l0]; simp
  have d1 : ((t.ns.length : Int) != (q.ns.length : Int)) = true := bne_iff_ne.2 (by omega)
  have L0 := aa l0
  clear l0
  go_enter Tryz.func36, Tryz.ntmps36
  go_wp2_with fail
  go_ret
  exact ⟨rfl, HU.out⟩
 have d0 : ((t.ps.length : Int) != (q.ps.length : Int)) = false := by rw [l0]; simp
 have d1 : ((t.ns.length : Int) != (q.ns.length : Int)) = false := by rw [l1]; simp
 have L0 := aa l0
 have L1 := aa l1
 clear l0 l1
 go_enter Tryz.func36, Tryz.ntmps36
 go_wp2_with fail
 clear a0 a1 b0 b1
 clear d0 d1
 generalize (w.alloc (.cells #[.slice pp t.ps.length pc, .slice np t.ns.length nc] 39)).alloc (.cells #[.slice jy q.ps.length jA, .slice jO q.ns.length jP] 39) = w1 at *
 go_loopw [5] (fun i wr => ∃ k : Nat, k ≤ t.ps.length ∧ i = .int .i64 k ∧ Hid (QD w1 wr) ∧ Hid (∀ j, j < k → gi t.ps j = gi q.ps j)) (fun i _ => t.ps.length - (intOf i).toNat)
 case atStart => exact ⟨0, Nat.zero_le _, rfl, QD.refl _, fun j hj => by omega⟩
 case round =>
  obtain ⟨k, hk, rfl, hQ, hd⟩ := hrel
  have HD := aa hd.out
  clear hd
  have a0 := hQ.out.up.cell A0.out
  have b0 := hQ.out.up.cell XZ.out
  by_cases hlt : k < t.ps.length
  ·obtain ⟨b, off, rfl, hc⟩ := bw (af.keep HP.out (hQ.out.kept S)) hlt
   obtain ⟨b2, off2, rfl, hc2⟩ := bw (af.keep XY.out (hQ.out.kept T)) (by rw [← L0.out]; exact hlt)
   have i1 : (0 : Int) ≤ (k : Int) := by omega
   have i2 : (k : Int) < (t.ps.length : Int) := by omega
   have i4 : (k : Int) < (q.ps.length : Int) := by have := L0.out; omega
   have i3 : (k : Int) < 1000000 := by have := iL.out.1; omega
   have aM := aa hlt
   by_cases e : gi t.ps k = gi q.ps k
   ·have j1 : (gi t.ps k != gi q.ps k) = false := by rw [e]; simp
    have Qc : Hid (∀ j, j < k + 1 → gi t.ps j = gi q.ps j) := fun j hj => by
     by_cases x : j = k
     ·rw [x]; exact e
     ·exact HD.out j (by omega)
    clear e hlt hk
    generalize gi t.ps k = x at *
    generalize gi q.ps k = y at *
    go_wp2_with fail
    go_quiet (fail)
    go_wp2_with fail
    go_roundw
    case rel => exact ⟨k + 1, aM.out, by go_num, hQ.out.drewN nq, Qc.out⟩
    case measure => have := aM.out; simp [intOf]; omega
   ·have j1 : (gi t.ps k != gi q.ps k) = true := bne_iff_ne.2 e
    clear hlt hk
    generalize gi t.ps k = x at *
    generalize gi q.ps k = y at *
    go_wp2_with fail
    go_quiet (fail)
    go_wp2_with fail
    go_ret
    exact ⟨rfl, HU.out.trans (hQ.out.drewN nq).up⟩
  ·obtain rfl : k = t.ps.length := by omega
   have X1 := aa hQ.out
   have HPS : Hid (t.ps = q.ps) := Wm L0.out HD.out
   have m1 : ¬ (t.ps.length : Int) < (t.ps.length : Int) := by omega
   clear hlt hk
   go_wp2_with fail
   go_loopw [6] (fun i wr => ∃ k : Nat, k ≤ t.ns.length ∧ i = .int .i64 k ∧ Hid (QD w1 wr) ∧ Hid (∀ j, j < k → gs t.ns j = gs q.ns j)) (fun i _ => t.ns.length - (intOf i).toNat)
   case atStart => exact ⟨0, Nat.zero_le _, rfl, X1.out, fun j hj => by omega⟩
   case round =>
    obtain ⟨k, hk, rfl, hQ, hd⟩ := hrel
    have HD := aa hd.out
    clear hd
    have a1 := hQ.out.up.cell A1.out
    have b1 := hQ.out.up.cell X0.out
    by_cases hlt : k < t.ns.length
    ·obtain ⟨b, off, rfl, hc⟩ := cC (ay.keep HN.out (hQ.out.kept S)) hlt
     obtain ⟨b2, off2, rfl, hc2⟩ := cC (ay.keep sV.out (hQ.out.kept T)) (by rw [← L1.out]; exact hlt)
     have i1 : (0 : Int) ≤ (k : Int) := by omega
     have i2 : (k : Int) < (t.ns.length : Int) := by omega
     have i4 : (k : Int) < (q.ns.length : Int) := by have := L1.out; omega
     have i3 : (k : Int) < 1000000 := by have := iL.out.2; omega
     have aM := aa hlt
     by_cases e : gs t.ns k = gs q.ns k
     ·have j1 : ((gs t.ns k).toList == (gs q.ns k).toList) = true := by rw [e]; simp
      have Qc : Hid (∀ j, j < k + 1 → gs t.ns j = gs q.ns j) := fun j hj => by
       by_cases x : j = k
       ·rw [x]; exact e
       ·exact HD.out j (by omega)
      clear e hlt hk
      generalize gs t.ns k = x at *
      generalize gs q.ns k = y at *
      go_wp2_with fail
      go_quiet (fail)
      go_wp2_with fail
      go_roundw
      case rel => exact ⟨k + 1, aM.out, by go_num, hQ.out.drewN nq, Qc.out⟩
      case measure => have := aM.out; simp [intOf]; omega
     ·have j1 : ((gs t.ns k).toList == (gs q.ns k).toList) = false := by
       rw [beq_eq_false_iff_ne, toList_data, toList_data]
       exact fun h => e (ua h)
      clear hlt hk e
      generalize gs t.ns k = x at *
      generalize gs q.ns k = y at *
      go_wp2_with fail
      go_quiet (fail)
      go_wp2_with fail
      go_ret
      exact ⟨rfl, HU.out.trans (hQ.out.drewN nq).up⟩
    ·obtain rfl : k = t.ns.length := by omega
     exact absurd (Wo HPS.out (Wn L1.out HD.out)) II.out
theorem Ns (S T : Nat → Prop) (w : World) (v u : Value) (t q : aA) (h : aG S w v t) (h2 : aG T w u q) (hp : t.ps.length ≤ 1000000) (hn : t.ns.length ≤ 1000000) :
  Calls Tryz.prog 36 #[v, u] w fun e w' => e = .returned (.bool (decide (t = q))) ∧ Up w w' := by
 by_cases e : t = q
 ·subst e
  rw [decide_eq_true rfl]
  exact GD S T w v u t h h2 hp hn
 ·rw [decide_eq_false e]
  exact JS S T w v u t q h h2 hp hn e
end
section
open Go.RowKit Go.Deep Go.Sort
theorem Nt {names : List ByteArray} {l : List (List Int)} (h : cS names l = 0) : (bF names l).ps.length ≤ 64 ∧ (bF names l).ns.length ≤ 64 ∧ ∀ k, (gs (bF names l).ns k).size ≤ 70000 := by
 obtain ⟨_, _, ht⟩ := T4 h
 obtain ⟨_, h1, h2, _, _⟩ := aH ht
 exact ⟨h1, by omega, Ms ht⟩
end
section
open Go.RowKit Go.Deep
end
section
open Go.ChangeShapes Go.WideShapes Go.ChangeAt Go.RowKit Go.Deep
instance : Inhabited DF := ⟨⟨0, 0, []⟩⟩
section
variable {H : Type} {enc : TypeId × Value → H} {W : World}
theorem Nu {v : Value} {d : DataW H} {p : List MemPlace} {base : Nat} (hv : Value.okWide Tryz.prog W .any base 22 v) (h : DataW.Trod enc Tryz.prog W 0 (fun _ => true) true 22 v d p) : ∃ xs : List ByteArray, ay Any W v xs ∧ xs.length ≤ 9223372036854775807 ∧ ∀ k, (gs xs k).size ≤ 9223372036854775807 := by
 obtain ⟨a, l, c, rfl⟩ := okWide_slice Tryz.underlying22 hv
 obtain ⟨n, hn⟩ := Jl rfl h
 exact Cw hn
end
end
end Go.Proofs.YtpnmblnahjjmhaaGreat
