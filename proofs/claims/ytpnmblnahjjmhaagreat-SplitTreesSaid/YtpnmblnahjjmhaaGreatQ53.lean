/- The walk of SplitTrees. -/
import Derived.Test.YtpnmblnahjjmhaaGreatQ1
import Derived.Test.YtpnmblnahjjmhaaGreatQ51
import Derived.Test.YtpnmblnahjjmhaaGreatQ52
import Derived.Test.YtpnmblnahjjmhaaGreatQ49
import Derived.Test.YtpnmblnahjjmhaaGreatQ39
import Derived.Test.YtpnmblnahjjmhaaGreatQ50
import Derived.Test.YtpnmblnahjjmhaaGreatQ46
namespace Go.Proofs.YtpnmblnahjjmhaaGreat
set_option maxRecDepth 100000
open Go.RowKit Go.Deep
theorem Jo {t : aJ} (h : rC t 18 = false) : t.ps.length ≤ 66 ∧ t.ns.length ≤ 68 ∧ ∀ k, (gs t.ns k).size ≤ 20 := by
 unfold rC at h
 simp only [Bool.or_eq_false_iff, Bool.and_eq_false_iff, decide_eq_false_iff_not] at h
 refine ⟨by omega, by omega, fun k => ?_⟩
 by_cases hk : k < t.ns.length
 ·have h2 := any_false h.2 hk
  have := of_decide_eq_false h2
  omega
 ·have : gs t.ns k = ByteArray.empty := by simp [gs, show t.ns.length ≤ k by omega]
  rw [this]; exact Nat.zero_le _
set_option maxHeartbeats 400000 in
theorem some_d (S : Nat → Prop) (w : World) (v : Value) (xs : List Int) (h : an S w v xs) : z7 30 #[] #[v] (.bool (decide (0 < xs.length))) w := by
 intro m
 obtain ⟨p, cap, rfl, hcap, _⟩ := aC.open h
 clear h
 aq Tryz.func30, Tryz.ntmps30
 aa fail
 ax
 exact ⟨aZ (by simp), m, rfl⟩
def Q0 (l : List (List Int)) : Bool := (List.range l.length).any fun k => decide (0 < (gl l k).length)
theorem T0 (S : Nat → Prop) (w : World) (v : Value) (l : List (List Int)) (h : aR S w v l) (hn : l.length ≤ 1000000) :
  Calls Tryz.prog 25 #[v, .func (.func 30) #[] #[]] w fun e w' => e = .returned (.bool (Q0 l)) ∧ ∃ q, w' = w.drewN q := by
 obtain ⟨f, mB, wQ⟩ := h
 exact vZ 30 #[] (enters_of Tryz.func30 (by af) rfl) S w v l.length f (fun k => decide (0 < (gl l k).length)) mB hn fun k hk => some_d S w _ _ (wQ k hk)
theorem Jp (names : List ByteArray) (l : List (List Int)) : (cr names l).ps.length ≤ 1000000 ∧ (cr names l).ns.length ≤ 1000000 := by
 by_cases h : dJ names l = 0
 ·obtain ⟨h1, h2, _⟩ := Nw h
  omega
 ·unfold cr; rw [if_neg h]; exact ⟨by simp, by simp⟩
set_option maxHeartbeats 16000000 in
theorem Ny (w : World) (v u : Value) (t q : aJ) (nv : Value) (names : List ByteArray) (lv : Value) (l : List (List Int)) (hT : aO Any w v t) (hQ : aO Any w u q) (hV : aG Any w nv names) (hL : aR Any w lv l)
    (hp : t.ps.length ≤ 9223372036854775807) (hn : t.ns.length ≤ 9223372036854775807) (hz : ∀ k, (gs t.ns k).size ≤ 9223372036854775807) (hp2 : q.ps.length ≤ 9223372036854775807) (hn2 : q.ns.length ≤ 9223372036854775807) (iR : ∀ k, (gs q.ns k).size ≤ 9223372036854775807)
    (hnl : names.length ≤ 9223372036854775807) (Ku : ∀ k, (gs names k).size ≤ 9223372036854775807) (Du : l.length ≤ 9223372036854775807) (hlr : ∀ k, (gl l k).length ≤ 9223372036854775807) :
    Calls Tryz.prog 4 #[v, u, nv, lv] w fun e w' => e = .returned (.bool true) ∧ Up w w' := by
  obtain ⟨P, N, rfl, hP, hN⟩ := hT
  obtain ⟨pp, pc, rfl, -, -⟩ := aC.open hP
  obtain ⟨np, nc, rfl, -, -⟩ := aC.open hN
  obtain ⟨P2, N2, rfl, lJ, mP⟩ := hQ
  obtain ⟨jZ, j0, rfl, -, -⟩ := aC.open lJ
  obtain ⟨kG, kH, rfl, -, -⟩ := aC.open mP
  obtain ⟨vp, vc, rfl, -, -⟩ := aC.open hV
  obtain ⟨lp, lc, rfl, -, -⟩ := dF hL
  have hP : an Any w (.slice pp t.ps.length pc) t.ps := hP
  have hN : aG Any w (.slice np t.ns.length nc) t.ns := hN
  have lJ : an Any w (.slice jZ q.ps.length j0) q.ps := lJ
  have mP : aG Any w (.slice kG q.ns.length kH) q.ns := mP
  have hV : aG Any w (.slice vp names.length vc) names := hV
  have cK := Up.alloc w (.cells #[.slice pp t.ps.length pc, .slice np t.ns.length nc] 39)
  have aL := Up.alloc (w.alloc (.cells #[.slice pp t.ps.length pc, .slice np t.ns.length nc] 39)) (.cells #[.slice jZ q.ps.length j0, .slice kG q.ns.length kH] 39)
  have hu := cK.trans aL
  have b0 := aL.cell (dg w (.slice pp t.ps.length pc) (.slice np t.ns.length nc) 39)
  have b1 := aL.cell (dy w (.slice pp t.ps.length pc) (.slice np t.ns.length nc) 39)
  have a0 := dg (w.alloc (.cells #[.slice pp t.ps.length pc, .slice np t.ns.length nc] 39)) (.slice jZ q.ps.length j0) (.slice kG q.ns.length kH) 39
  have a1 := dy (w.alloc (.cells #[.slice pp t.ps.length pc, .slice np t.ns.length nc] 39)) (.slice jZ q.ps.length j0) (.slice kG q.ns.length kH) 39
  rw [World.size_alloc] at a0 a1
  have gN := ag b0
  have gU := ag b1
  have CJ := ag a0
  have mH := ag a1
  have HT : Hid (aO Any ((w.alloc (.cells #[.slice pp t.ps.length pc, .slice np t.ns.length nc] 39)).alloc (.cells #[.slice jZ q.ps.length j0, .slice kG q.ns.length kH] 39)) (.agg #[.slice pp t.ps.length pc, .slice np t.ns.length nc]) t) := aO.keep ⟨_, _, rfl, hP, hN⟩ (hu.kept _)
  have HQ : Hid (aO Any ((w.alloc (.cells #[.slice pp t.ps.length pc, .slice np t.ns.length nc] 39)).alloc (.cells #[.slice jZ q.ps.length j0, .slice kG q.ns.length kH] 39)) (.agg #[.slice jZ q.ps.length j0, .slice kG q.ns.length kH]) q) := aO.keep ⟨_, _, rfl, lJ, mP⟩ (hu.kept _)
  have HV := ag (aG.keep hV (hu.kept _))
  have HL := ag (aR.keep hL (hu.kept _))
  have HG := ag (fun W (h : Up ((w.alloc (.cells #[.slice pp t.ps.length pc, .slice np t.ns.length nc] 39)).alloc (.cells #[.slice jZ q.ps.length j0, .slice kG q.ns.length kH] 39)) W) => ER Any W _ t (HT.out.keep (h.kept _)) hp hn hz)
  have wY := ag (fun W (h : Up ((w.alloc (.cells #[.slice pp t.ps.length pc, .slice np t.ns.length nc] 39)).alloc (.cells #[.slice jZ q.ps.length j0, .slice kG q.ns.length kH] 39)) W) => ER Any W _ q (HQ.out.keep (h.kept _)) hp2 hn2 iR)
  have CK := ag (fun W (h : Up ((w.alloc (.cells #[.slice pp t.ps.length pc, .slice np t.ns.length nc] 39)).alloc (.cells #[.slice jZ q.ps.length j0, .slice kG q.ns.length kH] 39)) W) => Nh Any W _ names (aG.keep HV.out (h.kept _)) hnl Ku)
  have Jq := ag (fun W (h : Up ((w.alloc (.cells #[.slice pp t.ps.length pc, .slice np t.ns.length nc] 39)).alloc (.cells #[.slice jZ q.ps.length j0, .slice kG q.ns.length kH] 39)) W) (h6 : l.length ≤ 66) => T0 Any W _ l (aR.keep HL.out (h.kept _)) (by omega))
  have Jr := ag (fun W (h : Up ((w.alloc (.cells #[.slice pp t.ps.length pc, .slice np t.ns.length nc] 39)).alloc (.cells #[.slice jZ q.ps.length j0, .slice kG q.ns.length kH] 39)) W) (h6 : l.length ≤ 66) => JQ Any W _ l (aR.keep HL.out (h.kept _)) (by omega) hlr)
  have HU := ag hu
  have E4 := ag QO
  have HLR := ag hlr
  clear hu cK aL hP hN lJ mP hL hV hn hz hp hn2 iR hp2 hlr Ku
  cases hg1 : rC t 18
  case true =>
    rw [hg1] at HG
    clear hg1
    aq Tryz.func4, Tryz.ntmps4
    aa fail
    refine (HG.out _ (Up.refl _)).mono ?_
    rintro e w1 ⟨rfl, cK⟩
    aa fail
    refine (E4.out _).mono ?_
    rintro e w' ⟨rfl, mV⟩
    aa fail
    ax
    exact ⟨rfl, HU.out.trans ((cK).trans mV)⟩
  case false =>
  rw [hg1] at HG
  cases hg2 : rC q 18
  case true =>
    rw [hg2] at wY
    clear hg1 hg2
    aq Tryz.func4, Tryz.ntmps4
    aa fail
    refine (HG.out _ (Up.refl _)).mono ?_
    rintro e w1 ⟨rfl, cK⟩
    have a0 := cK.cell CJ.out
    have a1 := cK.cell mH.out
    aa fail
    refine (wY.out _ cK).mono ?_
    rintro e w2 ⟨rfl, aL⟩
    have aL := cK.trans aL
    aa fail
    refine (E4.out _).mono ?_
    rintro e w' ⟨rfl, mV⟩
    aa fail
    ax
    exact ⟨rfl, HU.out.trans ((aL).trans mV)⟩
  case false =>
  rw [hg2] at wY
  cases hg3 : wB names
  case true =>
    rw [hg3] at CK
    clear hg1 hg2 hg3
    aq Tryz.func4, Tryz.ntmps4
    aa fail
    refine (HG.out _ (Up.refl _)).mono ?_
    rintro e w1 ⟨rfl, cK⟩
    have a0 := cK.cell CJ.out
    have a1 := cK.cell mH.out
    aa fail
    refine (wY.out _ cK).mono ?_
    rintro e w2 ⟨rfl, aL⟩
    have aL := cK.trans aL
    aa fail
    refine (CK.out _ aL).mono ?_
    rintro e w3 ⟨rfl, rfl⟩
    aa fail
    refine (E4.out _).mono ?_
    rintro e w' ⟨rfl, mV⟩
    aa fail
    ax
    exact ⟨rfl, HU.out.trans ((aL).trans mV)⟩
  case false =>
  rw [hg3] at CK
  by_cases Q1 : 66 < l.length
  case pos =>
    have d6 : decide ((66 : Int) < (l.length : Int)) = true := decide_eq_true (by omega)
    clear hg1 hg2 hg3 Q1
    aq Tryz.func4, Tryz.ntmps4
    aa fail
    refine (HG.out _ (Up.refl _)).mono ?_
    rintro e w1 ⟨rfl, cK⟩
    have a0 := cK.cell CJ.out
    have a1 := cK.cell mH.out
    aa fail
    refine (wY.out _ cK).mono ?_
    rintro e w2 ⟨rfl, aL⟩
    have aL := cK.trans aL
    aa fail
    refine (CK.out _ aL).mono ?_
    rintro e w3 ⟨rfl, rfl⟩
    aa fail
    refine (E4.out _).mono ?_
    rintro e w' ⟨rfl, mV⟩
    aa fail
    ax
    exact ⟨rfl, HU.out.trans ((aL).trans mV)⟩
  case neg =>
  have d6 : decide ((66 : Int) < (l.length : Int)) = false := decide_eq_false (by omega)
  have E5 : l.length ≤ 66 := by omega
  cases hs : (decide (7 < l.length) && Q0 l)
  case true =>
    rw [Bool.and_eq_true] at hs
    obtain ⟨hs1, hs2⟩ := hs
    have hs1 := of_decide_eq_true hs1
    have d7 : decide ((7 : Int) < (l.length : Int)) = true := decide_eq_true (by omega)
    rw [hs2] at Jq
    clear hg1 hg2 hg3 Q1 hs1 hs2
    aq Tryz.func4, Tryz.ntmps4
    aa fail
    refine (HG.out _ (Up.refl _)).mono ?_
    rintro e w1 ⟨rfl, cK⟩
    have a0 := cK.cell CJ.out
    have a1 := cK.cell mH.out
    aa fail
    refine (wY.out _ cK).mono ?_
    rintro e w2 ⟨rfl, aL⟩
    have aL := cK.trans aL
    aa fail
    refine (CK.out _ aL).mono ?_
    rintro e w3 ⟨rfl, rfl⟩
    aa fail
    refine (Jq.out _ aL E5).mono ?_
    rintro e w4 ⟨rfl, n4, rfl⟩
    aa fail
    refine (E4.out _).mono ?_
    rintro e w' ⟨rfl, mV⟩
    aa fail
    ax
    exact ⟨rfl, HU.out.trans ((aL.trans (Up.drewN _ _)).trans mV)⟩
  case false =>
  cases hgr : ZU l
  case true =>
    rw [hgr] at Jr
    by_cases c7 : 7 < l.length
    case pos =>
      have Bz : Q0 l = false := by rw [decide_eq_true c7, Bool.true_and] at hs; exact hs
      have d7 : decide ((7 : Int) < (l.length : Int)) = true := decide_eq_true (by omega)
      rw [Bz] at Jq
      clear hg1 hg2 hg3 Q1 hs Bz hgr c7
      aq Tryz.func4, Tryz.ntmps4
      aa fail
      refine (HG.out _ (Up.refl _)).mono ?_
      rintro e w1 ⟨rfl, cK⟩
      have a0 := cK.cell CJ.out
      have a1 := cK.cell mH.out
      aa fail
      refine (wY.out _ cK).mono ?_
      rintro e w2 ⟨rfl, aL⟩
      have aL := cK.trans aL
      aa fail
      refine (CK.out _ aL).mono ?_
      rintro e w3 ⟨rfl, rfl⟩
      aa fail
      refine (Jq.out _ aL E5).mono ?_
      rintro e w4 ⟨rfl, n4, rfl⟩
      aa fail
      refine (Jr.out _ (aL.trans (Up.drewN _ _)) E5).mono ?_
      rintro e w5 ⟨rfl, n5, rfl⟩
      aa fail
      refine (E4.out _).mono ?_
      rintro e w' ⟨rfl, mV⟩
      aa fail
      ax
      exact ⟨rfl, HU.out.trans ((aL.trans (Up.drewN _ _)).trans mV)⟩
    case neg =>
    have d7 : decide ((7 : Int) < (l.length : Int)) = false := decide_eq_false (by omega)
    clear hg1 hg2 hg3 Q1 hs hgr c7
    aq Tryz.func4, Tryz.ntmps4
    aa fail
    refine (HG.out _ (Up.refl _)).mono ?_
    rintro e w1 ⟨rfl, cK⟩
    have a0 := cK.cell CJ.out
    have a1 := cK.cell mH.out
    aa fail
    refine (wY.out _ cK).mono ?_
    rintro e w2 ⟨rfl, aL⟩
    have aL := cK.trans aL
    aa fail
    refine (CK.out _ aL).mono ?_
    rintro e w3 ⟨rfl, rfl⟩
    aa fail
    refine (Jr.out _ aL E5).mono ?_
    rintro e w5 ⟨rfl, n5, rfl⟩
    aa fail
    refine (E4.out _).mono ?_
    rintro e w' ⟨rfl, mV⟩
    aa fail
    ax
    exact ⟨rfl, HU.out.trans ((aL.trans (Up.drewN _ _)).trans mV)⟩
  case false =>
  rw [hgr] at Jr
  obtain ⟨sp, sn, sz⟩ := Jo hg1
  obtain ⟨sp2, sn2, sz2⟩ := Jo hg2
  obtain ⟨sm, smz⟩ := Qw hg3
  have g1 : t.ps.length ≤ 1000000 := by omega
  have g2 : t.ns.length ≤ 1000000 := by omega
  have g3 : ∀ k, (gs t.ns k).size ≤ 70000 := fun k => Nat.le_trans (sz k) (by decide)
  have g4 : q.ps.length ≤ 1000000 := by omega
  have g5 : q.ns.length ≤ 1000000 := by omega
  have g6 : ∀ k, (gs q.ns k).size ≤ 70000 := fun k => Nat.le_trans (sz2 k) (by decide)
  have g7 : names.length ≤ 1000000 := by omega
  have g8 : ∀ k, (gs names k).size ≤ 70000 := fun k => Nat.le_trans (smz k) (by decide)
  have g9 : l.length ≤ 1000000 := by omega
  have g10 : ∀ k, (gl l k).length ≤ 1000000 := fun k => Nat.le_trans (QA hgr k) (by decide)
  have gw := ag (fun W v u (hv : aO Any W v t) (hu : aG Any W u names) => zi Any W v u t names hv hu g1 g2 g3 g7)
  have yF := ag (fun W v u (hv : aO Any W v t) (hu : aG Any W u names) => Dr Any Any W v u t names hv hu g1 g2 g3 g7)
  have jk := ag (fun W v u (hv : aG Any W v names) (hu : aR Any W u l) => Lm Any W v u names l hv hu g7 g8 g9 g10)
  have HBD2 := ag (fun W v u (hv : aG Any W v names) (hu : aR Any W u l) => QY Any W v u names l hv hu g7 g8 g9 g10)
  have HDS := ag (fun W v u x (hv : aO Any W v t) (hu : aO Any W u q) (hx : aG Any W x names) => Cx Any W v u x t q names hv hu hx g1 g2 g3 g4 g5 g6 g7)
  have HDS2 := ag (fun W v u x (hv : aO Any W v t) (hu : aO Any W u q) (hx : aG Any W x names) => Fe Any W v u x t q names hv hu hx g1 g2 g3 g4 g5 g6 g7)
  have lH : Hid (∀ W v u, aR Any W v (aI t names) → aR Any W u (aI t names) → Calls Tryz.prog 35 #[v, u] W (xB W (decide (aI t names = aI t names)))) := fun W v u h1 h2 => by
    have h3 := Nat.le_trans (pV t names) g1
    have h4 : ∀ k, (gl (aI t names) k).length ≤ 1000000 := fun k => Nat.le_trans (sZ t names k) (by decide)
    exact Ad Any Any W v u _ _ h1 h2 h3 h3 h4 h4
  rw [decide_eq_true rfl] at lH
  have cu : Hid (∀ W v u, aO Any W v (cr names l) → aO Any W u (cr names l) → Calls Tryz.prog 36 #[v, u] W fun e w' => e = .returned (.bool (decide (cr names l = cr names l))) ∧ Up W w') := fun W v u h1 h2 => Nu Any Any W v u _ _ h1 h2 (Jp names l).1 (Jp names l).2
  rw [decide_eq_true rfl] at cu
  have GP : Hid (((decide (7 < l.length) && Q0 l) = false)) := hs
  clear hg1 hg2 hg3 Q1 hgr sp sn sz sp2 sn2 sz2 sm smz g1 g2 g3 g4 g5 g6 g7 g8 g9 g10 hs
  aq Tryz.func4, Tryz.ntmps4
  aa fail
  generalize ((w.alloc (.cells #[.slice pp t.ps.length pc, .slice np t.ns.length nc] 39)).alloc (.cells #[.slice jZ q.ps.length j0, .slice kG q.ns.length kH] 39)) = w1 at *
  generalize w.heap.size + 1 = ub at *
  generalize w.heap.size = tb at *
  refine (HG.out _ (Up.refl _)).mono ?_
  rintro e w2 ⟨rfl, aL⟩
  have b0 := aL.cell gN.out
  have b1 := aL.cell gU.out
  have a0 := aL.cell CJ.out
  have a1 := aL.cell mH.out
  have cM := ag aL
  clear aL HG
  aa fail
  refine (wY.out _ cM.out).mono ?_
  rintro e w3 ⟨rfl, cL⟩
  have dI := ag (cM.out.trans cL)
  clear cL wY b0 b1 a0 a1
  aa fail
  refine (CK.out _ dI.out).mono ?_
  rintro e w4 ⟨rfl, rfl⟩
  clear CK
  have key : ∀ w5, Up w3 w5 → Hid (Up w1 w5) := fun w5 h => dI.out.trans h
  by_cases c7 : 7 < l.length
  all_goals
    first
      | (have Bz : Q0 l = false := by
           have := GP.out
           rw [decide_eq_true c7, Bool.true_and] at this; exact this
         have d7 : decide ((7 : Int) < (l.length : Int)) = true := decide_eq_true (by omega)
         rw [Bz] at Jq
         clear Bz GP c7
         aa fail
         refine (Jq.out _ dI.out E5).mono ?_
         rintro e w5 ⟨rfl, n5, rfl⟩
         aa fail
         refine (Jr.out _ (dI.out.trans (Up.drewN _ _)) E5).mono ?_
         rintro e w6 ⟨rfl, n6, rfl⟩
         have mE := key _ ((Up.drewN w3 n5).trans (Up.drewN _ n6))
         generalize (w3.drewN n5).drewN n6 = w6 at *)
      | (have d7 : decide ((7 : Int) < (l.length : Int)) = false := decide_eq_false (by omega)
         clear GP c7
         aa fail
         refine (Jr.out _ dI.out E5).mono ?_
         rintro e w6 ⟨rfl, n6, rfl⟩
         have mE := key _ (Up.drewN w3 n6)
         generalize w3.drewN n6 = w6 at *)
    clear Jq Jr d6 E5 key
    have b0 := mE.out.cell gN.out
    have b1 := mE.out.cell gU.out
    aa fail
    refine (gw.out w6 _ _ (HT.out.keep (mE.out.kept _)) (aG.keep HV.out (mE.out.kept _))).mono ?_
    rintro e w7 ⟨hu, xv, rfl, hrx⟩
    obtain ⟨xp, xc, rfl, -, -⟩ := dF hrx
    have E6 := ag hrx
    have CB := ag (mE.out.trans hu)
    clear hrx hu b0 b1
    have b0 := CB.out.cell gN.out
    have b1 := CB.out.cell gU.out
    aa fail
    refine (yF.out w7 _ _ (HT.out.keep (CB.out.kept _)) (aG.keep HV.out (CB.out.kept _))).mono ?_
    rintro e w8 ⟨hu, yv, rfl, hry⟩
    obtain ⟨yp, yc, rfl, -, -⟩ := dF hry
    have LM := ag hry
    have E6 := ag (aR.keep E6.out (hu.kept _))
    have E2 := ag (CB.out.trans hu)
    clear hry hu b0 b1
    have b0 := E2.out.cell gN.out
    have b1 := E2.out.cell gU.out
    aa fail
    clear b0 b1
    refine (jk.out w8 _ _ (aG.keep HV.out (E2.out.kept _)) (aR.keep HL.out (E2.out.kept _))).mono ?_
    rintro e w9 ⟨hu, cv, rfl, Pc, Nc, rfl, Q2, Q3⟩
    obtain ⟨cp, cc, rfl, -, -⟩ := aC.open Q2
    obtain ⟨cq, cd, rfl, -, -⟩ := aC.open Q3
    have Q2 : an Any w9 (.slice cp (cr names l).ps.length cc) (cr names l).ps := Q2
    have Q3 : aG Any w9 (.slice cq (cr names l).ns.length cd) (cr names l).ns := Q3
    have dY := Up.alloc w9 (.cells #[.slice cp (cr names l).ps.length cc, .slice cq (cr names l).ns.length cd] 39)
    have c0 := dg w9 (.slice cp (cr names l).ps.length cc) (.slice cq (cr names l).ns.length cd) 39
    have c1 := dy w9 (.slice cp (cr names l).ps.length cc) (.slice cq (cr names l).ns.length cd) 39
    have nM : Hid (aO Any (w9.alloc (.cells #[.slice cp (cr names l).ps.length cc, .slice cq (cr names l).ns.length cd] 39)) (.agg #[.slice cp (cr names l).ps.length cc, .slice cq (cr names l).ns.length cd]) (cr names l)) := aO.keep ⟨_, _, rfl, Q2, Q3⟩ (dY.kept _)
    have pU := ag (E2.out.trans (hu.trans dY))
    have Hc0 := ag c0
    have Hc1 := ag c1
    have E6 := ag (aR.keep E6.out ((hu.trans dY).kept _))
    have LM := ag (aR.keep LM.out ((hu.trans dY).kept _))
    clear hu dY Q2 Q3 c0 c1
    aa fail
    generalize w9.alloc (.cells #[.slice cp (cr names l).ps.length cc, .slice cq (cr names l).ns.length cd] 39) = o9 at *
    generalize w9.heap.size = cb at *
    refine (HBD2.out o9 _ _ (aG.keep HV.out (pU.out.kept _)) (aR.keep HL.out (pU.out.kept _))).mono ?_
    rintro e cV ⟨hu, dv, rfl, Pd, Nd, rfl, wX, Q4⟩
    obtain ⟨dp, dc, rfl, -, -⟩ := aC.open wX
    obtain ⟨dq, dd, rfl, -, -⟩ := aC.open Q4
    have wX : an Any cV (.slice dp (cr names l).ps.length dc) (cr names l).ps := wX
    have Q4 : aG Any cV (.slice dq (cr names l).ns.length dd) (cr names l).ns := Q4
    have dY := Up.alloc cV (.cells #[.slice dp (cr names l).ps.length dc, .slice dq (cr names l).ns.length dd] 39)
    have d0 := dg cV (.slice dp (cr names l).ps.length dc) (.slice dq (cr names l).ns.length dd) 39
    have d1 := dy cV (.slice dp (cr names l).ps.length dc) (.slice dq (cr names l).ns.length dd) 39
    have Br : Hid (aO Any (cV.alloc (.cells #[.slice dp (cr names l).ps.length dc, .slice dq (cr names l).ns.length dd] 39)) (.agg #[.slice dp (cr names l).ps.length dc, .slice dq (cr names l).ns.length dd]) (cr names l)) := aO.keep ⟨_, _, rfl, wX, Q4⟩ (dY.kept _)
    have Nk := ag (pU.out.trans (hu.trans dY))
    have Hd0 := ag d0
    have Hd1 := ag d1
    have E6 := ag (aR.keep E6.out ((hu.trans dY).kept _))
    have LM := ag (aR.keep LM.out ((hu.trans dY).kept _))
    have Hc0 := ag ((hu.trans dY).cell Hc0.out)
    have Hc1 := ag ((hu.trans dY).cell Hc1.out)
    have nM := ag (nM.out.keep ((hu.trans dY).kept _))
    clear hu dY wX Q4 d0 d1
    aa fail
    generalize cV.alloc (.cells #[.slice dp (cr names l).ps.length dc, .slice dq (cr names l).ns.length dd] 39) = Vj at *
    generalize cV.heap.size = db at *
    refine (lH.out Vj _ _ E6.out LM.out).mono ?_
    rintro e yQ ⟨rfl, n13, rfl⟩
    have hu := Up.drewN Vj n13
    have Tk := ag (Nk.out.trans hu)
    have nM := ag (nM.out.keep (hu.kept _))
    have c0 := hu.cell Hc0.out
    have c1 := hu.cell Hc1.out
    have Br := ag (Br.out.keep (hu.kept _))
    have d0 := hu.cell Hd0.out
    have d1 := hu.cell Hd1.out
    clear hu lH E6 LM gw yF jk HBD2 HL
    have HEC : Hid (∃ ec, ec = dJ names l) := ⟨_, rfl⟩
    generalize dJ names l = ec at *
    generalize aT t names = eo at *
    generalize Vj.drewN n13 = yQ at *
    aa fail
    refine (cu.out yQ _ _ nM.out Br.out).mono ?_
    rintro e EO ⟨rfl, hu⟩
    have nC := ag (Tk.out.trans hu)
    clear hu c0 c1 d0 d1 nM Br cu HEC
    have b0 := nC.out.cell gN.out
    have b1 := nC.out.cell gU.out
    have a0 := nC.out.cell CJ.out
    have a1 := nC.out.cell mH.out
    aa fail
    refine (HDS.out EO _ _ _ (HT.out.keep (nC.out.kept _)) (HQ.out.keep (nC.out.kept _)) (aG.keep HV.out (nC.out.kept _))).mono ?_
    rintro e Jj ⟨rfl, hu⟩
    have uC := ag (nC.out.trans hu)
    clear hu b0 b1 a0 a1
    have b0 := uC.out.cell gN.out
    have b1 := uC.out.cell gU.out
    have a0 := uC.out.cell CJ.out
    have a1 := uC.out.cell mH.out
    aa fail
    refine (HDS2.out Jj _ _ _ (HT.out.keep (uC.out.kept _)) (HQ.out.keep (uC.out.kept _)) (aG.keep HV.out (uC.out.kept _))).mono ?_
    rintro e w16 ⟨rfl, hu⟩
    have TW := ag (uC.out.trans hu)
    clear hu b0 b1 a0 a1
    generalize jt t q names = de at *
    generalize (xh t q names : Int) = dn at *
    aa fail
    refine (E4.out _).mono ?_
    rintro e w' ⟨rfl, mV⟩
    aa fail
    ax
    exact ⟨rfl, HU.out.trans (TW.out.trans mV)⟩
end Go.Proofs.YtpnmblnahjjmhaaGreat
