/- The walk of SplitTrees. -/
import Derived.Test.YtpnmblnahjjmhaaGreatQ1
import Derived.Test.YtpnmblnahjjmhaaGreatQ52
import Derived.Test.YtpnmblnahjjmhaaGreatQ53
import Derived.Test.YtpnmblnahjjmhaaGreatQ50
import Derived.Test.YtpnmblnahjjmhaaGreatQ40
import Derived.Test.YtpnmblnahjjmhaaGreatQ51
import Derived.Test.YtpnmblnahjjmhaaGreatQ47
set_option maxRecDepth 100000
namespace Go.Proofs.YtpnmblnahjjmhaaGreat
open Go.RowKit Go.Deep
theorem Jp {t : aA} (h : qG t 18 = false) : t.ps.length ≤ 66 ∧ t.ns.length ≤ 68 ∧ ∀ k, (gs t.ns k).size ≤ 20 := by
 unfold qG at h
 simp only [Bool.or_eq_false_iff, Bool.and_eq_false_iff, decide_eq_false_iff_not] at h
 refine ⟨by omega, by omega, fun k => ?_⟩
 by_cases hk : k < t.ns.length
 ·have h2 := any_false h.2 hk
  have := of_decide_eq_false h2
  omega
 ·have : gs t.ns k = ByteArray.empty := by simp [gs, show t.ns.length ≤ k by omega]
  rw [this]; exact Nat.zero_le _
set_option maxHeartbeats 400000 in
theorem some_d (S : Nat → Prop) (w : World) (v : Value) (xs : List Int) (h : af S w v xs) : zK 30 #[] #[v] (.bool (decide (0 < xs.length))) w := by
 intro m
 obtain ⟨p, cap, rfl, hcap, _⟩ := av.open h
 clear h
 go_enter Tryz.func30, Tryz.ntmps30
 go_wp2_with fail
 go_ret
 exact ⟨aO (by simp), m, rfl⟩
def QW (l : List (List Int)) : Bool := (List.range l.length).any fun k => decide (0 < (gl l k).length)
theorem T7 (S : Nat → Prop) (w : World) (v : Value) (l : List (List Int)) (h : aJ S w v l) (hn : l.length ≤ 1000000) :
  Calls Tryz.prog 25 #[v, .func (.func 30) #[] #[]] w fun e w' => e = .returned (.bool (QW l)) ∧ ∃ q, w' = w.drewN q := by
 obtain ⟨f, lB, hf2⟩ := h
 exact vI 30 #[] (enters_of Tryz.func30 (by kernel_rfl) rfl) S w v l.length f (fun k => decide (0 < (gl l k).length)) lB hn fun k hk => some_d S w _ _ (hf2 k hk)
theorem Jq (names : List ByteArray) (l : List (List Int)) : (bF names l).ps.length ≤ 1000000 ∧ (bF names l).ns.length ≤ 1000000 := by
 by_cases h : cS names l = 0
 ·obtain ⟨h1, h2, _⟩ := Nt h
  omega
 ·unfold bF; rw [if_neg h]; exact ⟨by simp, by simp⟩
set_option maxHeartbeats 16000000 in
theorem Nw (w : World) (v u : Value) (t q : aA) (nv : Value) (names : List ByteArray) (lv : Value) (l : List (List Int)) (hT : aG Any w v t) (hQ : aG Any w u q) (hV : ay Any w nv names) (hL : aJ Any w lv l)
    (hp : t.ps.length ≤ 9223372036854775807) (hn : t.ns.length ≤ 9223372036854775807) (hz : ∀ k, (gs t.ns k).size ≤ 9223372036854775807) (hp2 : q.ps.length ≤ 9223372036854775807) (hn2 : q.ns.length ≤ 9223372036854775807) (hz2 : ∀ k, (gs q.ns k).size ≤ 9223372036854775807)
    (hnl : names.length ≤ 9223372036854775807) (Kt : ∀ k, (gs names k).size ≤ 9223372036854775807) (Dj : l.length ≤ 9223372036854775807) (hlr : ∀ k, (gl l k).length ≤ 9223372036854775807) :
    Calls Tryz.prog 4 #[v, u, nv, lv] w fun e w' => e = .returned (.bool true) ∧ Up w w' := by
  obtain ⟨P, N, rfl, hP, hN⟩ := hT
  obtain ⟨pp, pc, rfl, -, -⟩ := av.open hP
  obtain ⟨np, nc, rfl, -, -⟩ := av.open hN
  obtain ⟨P2, N2, rfl, kK, lR⟩ := hQ
  obtain ⟨jy, jA, rfl, -, -⟩ := av.open kK
  obtain ⟨jO, jP, rfl, -, -⟩ := av.open lR
  obtain ⟨vp, vc, rfl, -, -⟩ := av.open hV
  obtain ⟨lp, lc, rfl, -, -⟩ := cN hL
  have hP : af Any w (.slice pp t.ps.length pc) t.ps := hP
  have hN : ay Any w (.slice np t.ns.length nc) t.ns := hN
  have kK : af Any w (.slice jy q.ps.length jA) q.ps := kK
  have lR : ay Any w (.slice jO q.ns.length jP) q.ns := lR
  have hV : ay Any w (.slice vp names.length vc) names := hV
  have bO := Up.alloc w (.cells #[.slice pp t.ps.length pc, .slice np t.ns.length nc] 39)
  have aC := Up.alloc (w.alloc (.cells #[.slice pp t.ps.length pc, .slice np t.ns.length nc] 39)) (.cells #[.slice jy q.ps.length jA, .slice jO q.ns.length jP] 39)
  have hu := bO.trans aC
  have b0 := aC.cell (cB w (.slice pp t.ps.length pc) (.slice np t.ns.length nc) 39)
  have b1 := aC.cell (cI w (.slice pp t.ps.length pc) (.slice np t.ns.length nc) 39)
  have a0 := cB (w.alloc (.cells #[.slice pp t.ps.length pc, .slice np t.ns.length nc] 39)) (.slice jy q.ps.length jA) (.slice jO q.ns.length jP) 39
  have a1 := cI (w.alloc (.cells #[.slice pp t.ps.length pc, .slice np t.ns.length nc] 39)) (.slice jy q.ps.length jA) (.slice jO q.ns.length jP) 39
  rw [World.size_alloc] at a0 a1
  have gm := aa b0
  have gz := aa b1
  have Cz := aa a0
  have lH := aa a1
  have HT : Hid (aG Any ((w.alloc (.cells #[.slice pp t.ps.length pc, .slice np t.ns.length nc] 39)).alloc (.cells #[.slice jy q.ps.length jA, .slice jO q.ns.length jP] 39)) (.agg #[.slice pp t.ps.length pc, .slice np t.ns.length nc]) t) := aG.keep ⟨_, _, rfl, hP, hN⟩ (hu.kept _)
  have HQ : Hid (aG Any ((w.alloc (.cells #[.slice pp t.ps.length pc, .slice np t.ns.length nc] 39)).alloc (.cells #[.slice jy q.ps.length jA, .slice jO q.ns.length jP] 39)) (.agg #[.slice jy q.ps.length jA, .slice jO q.ns.length jP]) q) := aG.keep ⟨_, _, rfl, kK, lR⟩ (hu.kept _)
  have HV := aa (ay.keep hV (hu.kept _))
  have HL := aa (aJ.keep hL (hu.kept _))
  have HG := aa (fun W (h : Up ((w.alloc (.cells #[.slice pp t.ps.length pc, .slice np t.ns.length nc] 39)).alloc (.cells #[.slice jy q.ps.length jA, .slice jO q.ns.length jP] 39)) W) => EK Any W _ t (HT.out.keep (h.kept _)) hp hn hz)
  have wJ := aa (fun W (h : Up ((w.alloc (.cells #[.slice pp t.ps.length pc, .slice np t.ns.length nc] 39)).alloc (.cells #[.slice jy q.ps.length jA, .slice jO q.ns.length jP] 39)) W) => EK Any W _ q (HQ.out.keep (h.kept _)) hp2 hn2 hz2)
  have CA := aa (fun W (h : Up ((w.alloc (.cells #[.slice pp t.ps.length pc, .slice np t.ns.length nc] 39)).alloc (.cells #[.slice jy q.ps.length jA, .slice jO q.ns.length jP] 39)) W) => Ng Any W _ names (ay.keep HV.out (h.kept _)) hnl Kt)
  have Jr := aa (fun W (h : Up ((w.alloc (.cells #[.slice pp t.ps.length pc, .slice np t.ns.length nc] 39)).alloc (.cells #[.slice jy q.ps.length jA, .slice jO q.ns.length jP] 39)) W) (h6 : l.length ≤ 66) => T7 Any W _ l (aJ.keep HL.out (h.kept _)) (by omega))
  have Js := aa (fun W (h : Up ((w.alloc (.cells #[.slice pp t.ps.length pc, .slice np t.ns.length nc] 39)).alloc (.cells #[.slice jy q.ps.length jA, .slice jO q.ns.length jP] 39)) W) (h6 : l.length ≤ 66) => JR Any W _ l (aJ.keep HL.out (h.kept _)) (by omega) hlr)
  have HU := aa hu
  have EZ := aa QK
  have HLR := aa hlr
  clear hu bO aC hP hN kK lR hL hV hn hz hp hn2 hz2 hp2 hlr Kt
  cases hg1 : qG t 18
  case true =>
    rw [hg1] at HG
    clear hg1
    go_enter Tryz.func4, Tryz.ntmps4
    go_wp2_with fail
    refine (HG.out _ (Up.refl _)).mono ?_
    rintro e w1 ⟨rfl, bO⟩
    go_wp2_with fail
    refine (EZ.out _).mono ?_
    rintro e w' ⟨rfl, lZ⟩
    go_wp2_with fail
    go_ret
    exact ⟨rfl, HU.out.trans ((bO).trans lZ)⟩
  case false =>
  rw [hg1] at HG
  cases hg2 : qG q 18
  case true =>
    rw [hg2] at wJ
    clear hg1 hg2
    go_enter Tryz.func4, Tryz.ntmps4
    go_wp2_with fail
    refine (HG.out _ (Up.refl _)).mono ?_
    rintro e w1 ⟨rfl, bO⟩
    have a0 := bO.cell Cz.out
    have a1 := bO.cell lH.out
    go_wp2_with fail
    refine (wJ.out _ bO).mono ?_
    rintro e w2 ⟨rfl, aC⟩
    have aC := bO.trans aC
    go_wp2_with fail
    refine (EZ.out _).mono ?_
    rintro e w' ⟨rfl, lZ⟩
    go_wp2_with fail
    go_ret
    exact ⟨rfl, HU.out.trans ((aC).trans lZ)⟩
  case false =>
  rw [hg2] at wJ
  cases hg3 : vR names
  case true =>
    rw [hg3] at CA
    clear hg1 hg2 hg3
    go_enter Tryz.func4, Tryz.ntmps4
    go_wp2_with fail
    refine (HG.out _ (Up.refl _)).mono ?_
    rintro e w1 ⟨rfl, bO⟩
    have a0 := bO.cell Cz.out
    have a1 := bO.cell lH.out
    go_wp2_with fail
    refine (wJ.out _ bO).mono ?_
    rintro e w2 ⟨rfl, aC⟩
    have aC := bO.trans aC
    go_wp2_with fail
    refine (CA.out _ aC).mono ?_
    rintro e w3 ⟨rfl, rfl⟩
    go_wp2_with fail
    refine (EZ.out _).mono ?_
    rintro e w' ⟨rfl, lZ⟩
    go_wp2_with fail
    go_ret
    exact ⟨rfl, HU.out.trans ((aC).trans lZ)⟩
  case false =>
  rw [hg3] at CA
  by_cases QX : 66 < l.length
  case pos =>
    have d6 : decide ((66 : Int) < (l.length : Int)) = true := decide_eq_true (by omega)
    clear hg1 hg2 hg3 QX
    go_enter Tryz.func4, Tryz.ntmps4
    go_wp2_with fail
    refine (HG.out _ (Up.refl _)).mono ?_
    rintro e w1 ⟨rfl, bO⟩
    have a0 := bO.cell Cz.out
    have a1 := bO.cell lH.out
    go_wp2_with fail
    refine (wJ.out _ bO).mono ?_
    rintro e w2 ⟨rfl, aC⟩
    have aC := bO.trans aC
    go_wp2_with fail
    refine (CA.out _ aC).mono ?_
    rintro e w3 ⟨rfl, rfl⟩
    go_wp2_with fail
    refine (EZ.out _).mono ?_
    rintro e w' ⟨rfl, lZ⟩
    go_wp2_with fail
    go_ret
    exact ⟨rfl, HU.out.trans ((aC).trans lZ)⟩
  case neg =>
  have d6 : decide ((66 : Int) < (l.length : Int)) = false := decide_eq_false (by omega)
  have E0 : l.length ≤ 66 := by omega
  cases hs : (decide (7 < l.length) && QW l)
  case true =>
    rw [Bool.and_eq_true] at hs
    obtain ⟨hs1, hs2⟩ := hs
    have hs1 := of_decide_eq_true hs1
    have d7 : decide ((7 : Int) < (l.length : Int)) = true := decide_eq_true (by omega)
    rw [hs2] at Jr
    clear hg1 hg2 hg3 QX hs1 hs2
    go_enter Tryz.func4, Tryz.ntmps4
    go_wp2_with fail
    refine (HG.out _ (Up.refl _)).mono ?_
    rintro e w1 ⟨rfl, bO⟩
    have a0 := bO.cell Cz.out
    have a1 := bO.cell lH.out
    go_wp2_with fail
    refine (wJ.out _ bO).mono ?_
    rintro e w2 ⟨rfl, aC⟩
    have aC := bO.trans aC
    go_wp2_with fail
    refine (CA.out _ aC).mono ?_
    rintro e w3 ⟨rfl, rfl⟩
    go_wp2_with fail
    refine (Jr.out _ aC E0).mono ?_
    rintro e w4 ⟨rfl, n4, rfl⟩
    go_wp2_with fail
    refine (EZ.out _).mono ?_
    rintro e w' ⟨rfl, lZ⟩
    go_wp2_with fail
    go_ret
    exact ⟨rfl, HU.out.trans ((aC.trans (Up.drewN _ _)).trans lZ)⟩
  case false =>
  cases hgr : ZZ l
  case true =>
    rw [hgr] at Js
    by_cases c7 : 7 < l.length
    case pos =>
      have Bh : QW l = false := by rw [decide_eq_true c7, Bool.true_and] at hs; exact hs
      have d7 : decide ((7 : Int) < (l.length : Int)) = true := decide_eq_true (by omega)
      rw [Bh] at Jr
      clear hg1 hg2 hg3 QX hs Bh hgr c7
      go_enter Tryz.func4, Tryz.ntmps4
      go_wp2_with fail
      refine (HG.out _ (Up.refl _)).mono ?_
      rintro e w1 ⟨rfl, bO⟩
      have a0 := bO.cell Cz.out
      have a1 := bO.cell lH.out
      go_wp2_with fail
      refine (wJ.out _ bO).mono ?_
      rintro e w2 ⟨rfl, aC⟩
      have aC := bO.trans aC
      go_wp2_with fail
      refine (CA.out _ aC).mono ?_
      rintro e w3 ⟨rfl, rfl⟩
      go_wp2_with fail
      refine (Jr.out _ aC E0).mono ?_
      rintro e w4 ⟨rfl, n4, rfl⟩
      go_wp2_with fail
      refine (Js.out _ (aC.trans (Up.drewN _ _)) E0).mono ?_
      rintro e w5 ⟨rfl, n5, rfl⟩
      go_wp2_with fail
      refine (EZ.out _).mono ?_
      rintro e w' ⟨rfl, lZ⟩
      go_wp2_with fail
      go_ret
      exact ⟨rfl, HU.out.trans ((aC.trans (Up.drewN _ _)).trans lZ)⟩
    case neg =>
    have d7 : decide ((7 : Int) < (l.length : Int)) = false := decide_eq_false (by omega)
    clear hg1 hg2 hg3 QX hs hgr c7
    go_enter Tryz.func4, Tryz.ntmps4
    go_wp2_with fail
    refine (HG.out _ (Up.refl _)).mono ?_
    rintro e w1 ⟨rfl, bO⟩
    have a0 := bO.cell Cz.out
    have a1 := bO.cell lH.out
    go_wp2_with fail
    refine (wJ.out _ bO).mono ?_
    rintro e w2 ⟨rfl, aC⟩
    have aC := bO.trans aC
    go_wp2_with fail
    refine (CA.out _ aC).mono ?_
    rintro e w3 ⟨rfl, rfl⟩
    go_wp2_with fail
    refine (Js.out _ aC E0).mono ?_
    rintro e w5 ⟨rfl, n5, rfl⟩
    go_wp2_with fail
    refine (EZ.out _).mono ?_
    rintro e w' ⟨rfl, lZ⟩
    go_wp2_with fail
    go_ret
    exact ⟨rfl, HU.out.trans ((aC.trans (Up.drewN _ _)).trans lZ)⟩
  case false =>
  rw [hgr] at Js
  obtain ⟨sp, sn, sz⟩ := Jp hg1
  obtain ⟨sp2, sn2, sz2⟩ := Jp hg2
  obtain ⟨sm, smz⟩ := Qs hg3
  have g1 : t.ps.length ≤ 1000000 := by omega
  have g2 : t.ns.length ≤ 1000000 := by omega
  have g3 : ∀ k, (gs t.ns k).size ≤ 70000 := fun k => Nat.le_trans (sz k) (by decide)
  have g4 : q.ps.length ≤ 1000000 := by omega
  have g5 : q.ns.length ≤ 1000000 := by omega
  have g6 : ∀ k, (gs q.ns k).size ≤ 70000 := fun k => Nat.le_trans (sz2 k) (by decide)
  have g7 : names.length ≤ 1000000 := by omega
  have g8 : ∀ k, (gs names k).size ≤ 70000 := fun k => Nat.le_trans (smz k) (by decide)
  have g9 : l.length ≤ 1000000 := by omega
  have g10 : ∀ k, (gl l k).length ≤ 1000000 := fun k => Nat.le_trans (Qw hgr k) (by decide)
  have fJ := aa (fun W v u (hv : aG Any W v t) (hu : ay Any W u names) => yV Any W v u t names hv hu g1 g2 g3 g7)
  have yh := aa (fun W v u (hv : aG Any W v t) (hu : ay Any W u names) => Dg Any Any W v u t names hv hu g1 g2 g3 g7)
  have iL := aa (fun W v u (hv : ay Any W v names) (hu : aJ Any W u l) => Li Any W v u names l hv hu g7 g8 g9 g10)
  have HBD2 := aa (fun W v u (hv : ay Any W v names) (hu : aJ Any W u l) => QU Any W v u names l hv hu g7 g8 g9 g10)
  have HDS := aa (fun W v u x (hv : aG Any W v t) (hu : aG Any W u q) (hx : ay Any W x names) => Cm Any W v u x t q names hv hu hx g1 g2 g3 g4 g5 g6 g7)
  have HDS2 := aa (fun W v u x (hv : aG Any W v t) (hu : aG Any W u q) (hx : ay Any W x names) => E8 Any W v u x t q names hv hu hx g1 g2 g3 g4 g5 g6 g7)
  have kI : Hid (∀ W v u, aJ Any W v (az t names) → aJ Any W u (az t names) → Calls Tryz.prog 35 #[v, u] W (wW W (decide (az t names = az t names)))) := fun W v u h1 h2 => by
    have h3 := Nat.le_trans (oM t names) g1
    have h4 : ∀ k, (gl (az t names) k).length ≤ 1000000 := fun k => Nat.le_trans (sr t names k) (by decide)
    exact zP Any Any W v u _ _ h1 h2 h3 h3 h4 h4
  rw [decide_eq_true rfl] at kI
  have HST : Hid (∀ W v u, aG Any W v (bF names l) → aG Any W u (bF names l) → Calls Tryz.prog 36 #[v, u] W fun e w' => e = .returned (.bool (decide (bF names l = bF names l))) ∧ Up W w') := fun W v u h1 h2 => Ns Any Any W v u _ _ h1 h2 (Jq names l).1 (Jq names l).2
  rw [decide_eq_true rfl] at HST
  have GM : Hid (((decide (7 < l.length) && QW l) = false)) := hs
  clear hg1 hg2 hg3 QX hgr sp sn sz sp2 sn2 sz2 sm smz g1 g2 g3 g4 g5 g6 g7 g8 g9 g10 hs
  go_enter Tryz.func4, Tryz.ntmps4
  go_wp2_with fail
  generalize ((w.alloc (.cells #[.slice pp t.ps.length pc, .slice np t.ns.length nc] 39)).alloc (.cells #[.slice jy q.ps.length jA, .slice jO q.ns.length jP] 39)) = w1 at *
  generalize w.heap.size + 1 = ub at *
  generalize w.heap.size = tb at *
  refine (HG.out _ (Up.refl _)).mono ?_
  rintro e w2 ⟨rfl, aC⟩
  have b0 := aC.cell gm.out
  have b1 := aC.cell gz.out
  have a0 := aC.cell Cz.out
  have a1 := aC.cell lH.out
  have bU := aa aC
  clear aC HG
  go_wp2_with fail
  refine (wJ.out _ bU.out).mono ?_
  rintro e w3 ⟨rfl, bR⟩
  have cR := aa (bU.out.trans bR)
  clear bR wJ b0 b1 a0 a1
  go_wp2_with fail
  refine (CA.out _ cR.out).mono ?_
  rintro e w4 ⟨rfl, rfl⟩
  clear CA
  have key : ∀ w5, Up w3 w5 → Hid (Up w1 w5) := fun w5 h => cR.out.trans h
  by_cases c7 : 7 < l.length
  all_goals
    first
      | (have Bh : QW l = false := by
           have := GM.out
           rw [decide_eq_true c7, Bool.true_and] at this; exact this
         have d7 : decide ((7 : Int) < (l.length : Int)) = true := decide_eq_true (by omega)
         rw [Bh] at Jr
         clear Bh GM c7
         go_wp2_with fail
         refine (Jr.out _ cR.out E0).mono ?_
         rintro e w5 ⟨rfl, n5, rfl⟩
         go_wp2_with fail
         refine (Js.out _ (cR.out.trans (Up.drewN _ _)) E0).mono ?_
         rintro e w6 ⟨rfl, n6, rfl⟩
         have lD := key _ ((Up.drewN w3 n5).trans (Up.drewN _ n6))
         generalize (w3.drewN n5).drewN n6 = w6 at *)
      | (have d7 : decide ((7 : Int) < (l.length : Int)) = false := decide_eq_false (by omega)
         clear GM c7
         go_wp2_with fail
         refine (Js.out _ cR.out E0).mono ?_
         rintro e w6 ⟨rfl, n6, rfl⟩
         have lD := key _ (Up.drewN w3 n6)
         generalize w3.drewN n6 = w6 at *)
    clear Jr Js d6 E0 key
    have b0 := lD.out.cell gm.out
    have b1 := lD.out.cell gz.out
    go_wp2_with fail
    refine (fJ.out w6 _ _ (HT.out.keep (lD.out.kept _)) (ay.keep HV.out (lD.out.kept _))).mono ?_
    rintro e w7 ⟨hu, xv, rfl, hrx⟩
    obtain ⟨xp, xc, rfl, -, -⟩ := cN hrx
    have E1 := aa hrx
    have Cr := aa (lD.out.trans hu)
    clear hrx hu b0 b1
    have b0 := Cr.out.cell gm.out
    have b1 := Cr.out.cell gz.out
    go_wp2_with fail
    refine (yh.out w7 _ _ (HT.out.keep (Cr.out.kept _)) (ay.keep HV.out (Cr.out.kept _))).mono ?_
    rintro e w8 ⟨hu, yv, rfl, hry⟩
    obtain ⟨yp, yc, rfl, -, -⟩ := cN hry
    have LJ := aa hry
    have E1 := aa (aJ.keep E1.out (hu.kept _))
    have EX := aa (Cr.out.trans hu)
    clear hry hu b0 b1
    have b0 := EX.out.cell gm.out
    have b1 := EX.out.cell gz.out
    go_wp2_with fail
    clear b0 b1
    refine (iL.out w8 _ _ (ay.keep HV.out (EX.out.kept _)) (aJ.keep HL.out (EX.out.kept _))).mono ?_
    rintro e w9 ⟨hu, cv, rfl, Pc, Nc, rfl, QY, QZ⟩
    obtain ⟨cp, cc, rfl, -, -⟩ := av.open QY
    obtain ⟨cq, cd, rfl, -, -⟩ := av.open QZ
    have QY : af Any w9 (.slice cp (bF names l).ps.length cc) (bF names l).ps := QY
    have QZ : ay Any w9 (.slice cq (bF names l).ns.length cd) (bF names l).ns := QZ
    have dx := Up.alloc w9 (.cells #[.slice cp (bF names l).ps.length cc, .slice cq (bF names l).ns.length cd] 39)
    have c0 := cB w9 (.slice cp (bF names l).ps.length cc) (.slice cq (bF names l).ns.length cd) 39
    have c1 := cI w9 (.slice cp (bF names l).ps.length cc) (.slice cq (bF names l).ns.length cd) 39
    have mO : Hid (aG Any (w9.alloc (.cells #[.slice cp (bF names l).ps.length cc, .slice cq (bF names l).ns.length cd] 39)) (.agg #[.slice cp (bF names l).ps.length cc, .slice cq (bF names l).ns.length cd]) (bF names l)) := aG.keep ⟨_, _, rfl, QY, QZ⟩ (dx.kept _)
    have oL := aa (EX.out.trans (hu.trans dx))
    have Hc0 := aa c0
    have Hc1 := aa c1
    have E1 := aa (aJ.keep E1.out ((hu.trans dx).kept _))
    have LJ := aa (aJ.keep LJ.out ((hu.trans dx).kept _))
    clear hu dx QY QZ c0 c1
    go_wp2_with fail
    generalize w9.alloc (.cells #[.slice cp (bF names l).ps.length cc, .slice cq (bF names l).ns.length cd] 39) = ox at *
    generalize w9.heap.size = cb at *
    refine (HBD2.out ox _ _ (ay.keep HV.out (oL.out.kept _)) (aJ.keep HL.out (oL.out.kept _))).mono ?_
    rintro e cr ⟨hu, dv, rfl, Pd, Nd, rfl, wI, Q0⟩
    obtain ⟨dp, dc, rfl, -, -⟩ := av.open wI
    obtain ⟨dq, dd, rfl, -, -⟩ := av.open Q0
    have wI : af Any cr (.slice dp (bF names l).ps.length dc) (bF names l).ps := wI
    have Q0 : ay Any cr (.slice dq (bF names l).ns.length dd) (bF names l).ns := Q0
    have dx := Up.alloc cr (.cells #[.slice dp (bF names l).ps.length dc, .slice dq (bF names l).ns.length dd] 39)
    have d0 := cB cr (.slice dp (bF names l).ps.length dc) (.slice dq (bF names l).ns.length dd) 39
    have d1 := cI cr (.slice dp (bF names l).ps.length dc) (.slice dq (bF names l).ns.length dd) 39
    have Bb : Hid (aG Any (cr.alloc (.cells #[.slice dp (bF names l).ps.length dc, .slice dq (bF names l).ns.length dd] 39)) (.agg #[.slice dp (bF names l).ps.length dc, .slice dq (bF names l).ns.length dd]) (bF names l)) := aG.keep ⟨_, _, rfl, wI, Q0⟩ (dx.kept _)
    have Nj := aa (oL.out.trans (hu.trans dx))
    have Hd0 := aa d0
    have Hd1 := aa d1
    have E1 := aa (aJ.keep E1.out ((hu.trans dx).kept _))
    have LJ := aa (aJ.keep LJ.out ((hu.trans dx).kept _))
    have Hc0 := aa ((hu.trans dx).cell Hc0.out)
    have Hc1 := aa ((hu.trans dx).cell Hc1.out)
    have mO := aa (mO.out.keep ((hu.trans dx).kept _))
    clear hu dx wI Q0 d0 d1
    go_wp2_with fail
    generalize cr.alloc (.cells #[.slice dp (bF names l).ps.length dc, .slice dq (bF names l).ns.length dd] 39) = Vk at *
    generalize cr.heap.size = db at *
    refine (kI.out Vk _ _ E1.out LJ.out).mono ?_
    rintro e yA ⟨rfl, n13, rfl⟩
    have hu := Up.drewN Vk n13
    have Tm := aa (Nj.out.trans hu)
    have mO := aa (mO.out.keep (hu.kept _))
    have c0 := hu.cell Hc0.out
    have c1 := hu.cell Hc1.out
    have Bb := aa (Bb.out.keep (hu.kept _))
    have d0 := hu.cell Hd0.out
    have d1 := hu.cell Hd1.out
    clear hu kI E1 LJ fJ yh iL HBD2 HL
    have HEC : Hid (∃ ec, ec = cS names l) := ⟨_, rfl⟩
    generalize cS names l = ec at *
    generalize aL t names = eo at *
    generalize Vk.drewN n13 = yA at *
    go_wp2_with fail
    refine (HST.out yA _ _ mO.out Bb.out).mono ?_
    rintro e EI ⟨rfl, hu⟩
    have mF := aa (Tm.out.trans hu)
    clear hu c0 c1 d0 d1 mO Bb HST HEC
    have b0 := mF.out.cell gm.out
    have b1 := mF.out.cell gz.out
    have a0 := mF.out.cell Cz.out
    have a1 := mF.out.cell lH.out
    go_wp2_with fail
    refine (HDS.out EI _ _ _ (HT.out.keep (mF.out.kept _)) (HQ.out.keep (mF.out.kept _)) (ay.keep HV.out (mF.out.kept _))).mono ?_
    rintro e Jk ⟨rfl, hu⟩
    have tZ := aa (mF.out.trans hu)
    clear hu b0 b1 a0 a1
    have b0 := tZ.out.cell gm.out
    have b1 := tZ.out.cell gz.out
    have a0 := tZ.out.cell Cz.out
    have a1 := tZ.out.cell lH.out
    go_wp2_with fail
    refine (HDS2.out Jk _ _ _ (HT.out.keep (tZ.out.kept _)) (HQ.out.keep (tZ.out.kept _)) (ay.keep HV.out (tZ.out.kept _))).mono ?_
    rintro e w16 ⟨rfl, hu⟩
    have T3 := aa (tZ.out.trans hu)
    clear hu b0 b1 a0 a1
    generalize iQ t q names = de at *
    generalize (wO t q names : Int) = dn at *
    go_wp2_with fail
    refine (EZ.out _).mono ?_
    rintro e w' ⟨rfl, lZ⟩
    go_wp2_with fail
    go_ret
    exact ⟨rfl, HU.out.trans (T3.out.trans lZ)⟩
end Go.Proofs.YtpnmblnahjjmhaaGreat
