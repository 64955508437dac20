/- The contract of layer 32's reference's Of. -/
import Derived.Test.YtpnmblnahjjmhaaGreatQ1
import Derived.Test.YtpnmblnahjjmhaaGreatQ44
import Derived.Test.YtpnmblnahjjmhaaGreatQ38
import Derived.Deep.RegionHeld3
set_option maxRecDepth 100000
namespace Go.Proofs.YtpnmblnahjjmhaaGreat
open Go.RowKit Go.Deep
def sF (t : aA) (names : List ByteArray) (k i j : Nat) : Bool := decide (gs t.ns j = gs names i) && dm t.ps k j
def qi (t : aA) (names : List ByteArray) (k i m : Nat) : Bool := (List.range m).any (sF t names k i)
def ownK (t : aA) (names : List ByteArray) (k : Nat) : Nat → List Int
 | 0 => []
 | i + 1 => ownK t names k i ++ if qi t names k i t.ns.length = true then [(i : Int)] else []
theorem I4 (t : aA) (names : List ByteArray) (k : Nat) : ∀ i, (ownK t names k i).length ≤ i
 | 0 => Nat.le_refl _
 | i + 1 => by
  have := I4 t names k i
  rw [ownK, List.length_append]
  split <;> simp <;> omega
theorem I5 (t : aA) (names : List ByteArray) (k i m : Nat) : qi t names k i (m + 1) = (qi t names k i m || sF t names k i m) := by
 unfold qi; rw [List.range_succ, List.any_append]; simp
theorem TJ {t : aA} {names : List ByteArray} (h : iz t names) {k i : Nat} (hi : i < names.length) {a b : Nat} (ha : a < t.ns.length) (hb : b < t.ns.length) (h1 : sF t names k i a = true) (h2 : sF t names k i b = true) : a = b := by
 obtain ⟨_, _, hl, _, _⟩ := aH h.te
 unfold sF at h1 h2
 simp only [Bool.and_eq_true, decide_eq_true_eq] at h1 h2
 obtain ⟨j, hj, h0, e⟩ := rX h hi
 have e1 : gs t.ns a = gs t.ns j := by rw [h1.1, e]
 have e2 : gs t.ns b = gs t.ns j := by rw [h2.1, e]
 have ho : cK t j := ⟨h.te, hj, h0⟩
 exact (ho.inj hj (by omega) h0 e1.symm).symm.trans (ho.inj hj (by omega) h0 e2.symm)
theorem TK {t : aA} {names : List ByteArray} (h : iz t names) {k i : Nat} (hi : i < names.length) {m : Nat} (hm : m < t.ns.length) (hq : sF t names k i m = true) : qi t names k i m = false := by
 refine any_none fun j hj => ?_
 cases e : sF t names k i j with
 | false => rfl
 | true => have := TJ h hi (by omega) hm e hq; omega
theorem Wh {t : aA} {names : List ByteArray} (h : iz t names) (k : Nat) {i : Nat} (hi : i < names.length) : qi t names k i t.ns.length = (List.range t.ps.length).any fun j => dm t.ps k j && decide ((gs t.ns j).size ≠ 0) && decide (eR names (gs t.ns j) = (i : Int)) := by
 obtain ⟨_, _, hl, _, _⟩ := aH h.te
 rw [Bool.eq_iff_iff]
 unfold qi
 rw [List.any_eq_true, List.any_eq_true]
 constructor
 ·rintro ⟨j, hj, hq⟩
  have hj := List.mem_range.1 hj
  unfold sF at hq
  simp only [Bool.and_eq_true, decide_eq_true_eq] at hq
  obtain ⟨j2, hj2, h0, e⟩ := rX h hi
  refine ⟨j, List.mem_range.2 (by omega), ?_⟩
  simp only [Bool.and_eq_true, decide_eq_true_eq]
  exact ⟨⟨hq.2, by rw [hq.1, ← e]; exact h0⟩, by rw [hq.1]; exact nU h.nd hi⟩
 ·rintro ⟨j, hj, hq⟩
  have hj := List.mem_range.1 hj
  simp only [Bool.and_eq_true, decide_eq_true_eq] at hq
  obtain ⟨b, hb, e⟩ := h.has j hj hq.1.2
  have h1 := nU h.nd hb
  rw [e, hq.2] at h1
  have : b = i := by omega
  subst this
  refine ⟨j, List.mem_range.2 (by omega), ?_⟩
  unfold sF
  rw [Bool.and_eq_true]
  exact ⟨decide_eq_true e.symm, hq.1.1⟩
theorem TM {t : aA} {names : List ByteArray} (h : iz t names) (k : Nat) : ownK t names k names.length = aN t names k := by
 have hX : ∀ i, i ≤ names.length → ownK t names k i = ey (fun b => (List.range t.ps.length).any fun j => dm t.ps k j && decide ((gs t.ns j).size ≠ 0) && decide (eR names (gs t.ns j) = b)) i := by
  intro i
  induction i with
  | zero => exact fun _ => rfl
  | succ i ih =>
   intro hi
   rw [pS, ownK, ih (by omega), Wh h k (by omega)]
 exact hX _ (Nat.le_refl _)
theorem QF {t : aA} {names : List ByteArray} {k n base : Nat} {w : World} {v : Value} (h : ah base 3 w v ((ownK t names k n).map (Value.int .i64))) : ah base 3 w v ((ownK t names k n ++ if qi t names k n 0 = true then [(n : Int)] else []).map (Value.int .i64)) := by
 rw [show qi t names k n 0 = false from rfl]; simpa using h
theorem I6 {t : aA} {names : List ByteArray} {k n m base : Nat} {w : World} {v : Value} (hq : sF t names k n m = false) (h : ah base 3 w v ((ownK t names k n ++ if qi t names k n m = true then [(n : Int)] else []).map (Value.int .i64))) : ah base 3 w v ((ownK t names k n ++ if qi t names k n (m + 1) = true then [(n : Int)] else []).map (Value.int .i64)) := by
 rw [I5, hq, Bool.or_false]; exact h
theorem TN {t : aA} {names : List ByteArray} {k n m base : Nat} {w : World} {v : Value} (hp : qi t names k n m = false) (h : ah base 3 w v ((ownK t names k n ++ if qi t names k n m = true then [(n : Int)] else []).map (Value.int .i64))) : ah base 3 w v ((ownK t names k n).map (Value.int .i64)) := by
 rw [hp] at h; simpa using h
theorem TP {t : aA} {names : List ByteArray} {k n m base : Nat} {w : World} {v : Value} (hq : sF t names k n m = true) (h : ah base 3 w v ((ownK t names k n).map (Value.int .i64) ++ [.int .i64 (n : Int)])) : ah base 3 w v ((ownK t names k n ++ if qi t names k n (m + 1) = true then [(n : Int)] else []).map (Value.int .i64)) := by
 rw [I5, hq, Bool.or_true, if_pos rfl, List.map_append]; exact h
theorem I7 {t : aA} {names : List ByteArray} {k : Nat} (hk : 1 ≤ k) (h : aF names.length (aU names.length (aN t names k)) ≠ 0) : owK t names (k + 1 - 1) = owK t names (k - 1) := by
 obtain ⟨d, rfl⟩ : ∃ d, k = d + 1 := ⟨k - 1, by omega⟩
 rw [Nat.add_sub_cancel, Nat.add_sub_cancel, owK, if_neg h]
theorem qT {t : aA} {names : List ByteArray} {k : Nat} (hk : 1 ≤ k) (h : aF names.length (aU names.length (aN t names k)) = 0) : owK t names (k + 1 - 1) = iwO (aU names.length (aN t names k)) (owK t names (k - 1)) := by
 obtain ⟨d, rfl⟩ : ∃ d, k = d + 1 := ⟨k - 1, by omega⟩
 rw [Nat.add_sub_cancel, Nat.add_sub_cancel, owK, if_pos h]
theorem EP {s : List Int} {l : List (List Int)} {a : Nat} (ha : a < l.length) (hb : ∀ j, j < a → cmpL (gl l j) s < 0) (hc : ¬ cmpL (gl l a) s < 0) (e : gl l a = s) : iwO s l = l := by
 have h := Qg (Nat.le_of_lt ha) hb (.inr hc)
 rw [tC, ← h, if_pos ⟨ha, e⟩]
theorem y6 {s : List Int} {l : List (List Int)} {a : Nat} (ha : a ≤ l.length) (hb : ∀ j, j < a → cmpL (gl l j) s < 0) (hc : a = l.length ∨ (¬ cmpL (gl l a) s < 0 ∧ gl l a ≠ s)) : iwO s l = l.take a ++ s :: l.drop a := by
 have h := Qg ha hb (hc.imp id fun h => h.1)
 rw [tC, ← h, if_neg]
 rintro ⟨h1, h2⟩
 rcases hc with hc | hc
 ·omega
 ·exact hc.2 h2
theorem QG {W : World} {g : Nat} {f : Nat → Value} {rows : List (List Int)} (h1 : ∀ k, k < rows.length → W.cell? ⟨g, 0 + k, none⟩ = some (f k)) (h2 : ∀ k, k < rows.length → af Any W (f k) (gl rows k)) {k : Nat} (hk : k < rows.length) :
  ∃ q c, W.cell? ⟨g, k, none⟩ = some (.slice q (gl rows k).length c) ∧ af Any W (.slice q (gl rows k).length c) (gl rows k) := by
 have hc := h1 k hk
 have hi := h2 k hk
 obtain ⟨q, c, e, -, -⟩ := av.open hi
 rw [e] at hc hi
 exact ⟨q, c, by simpa using hc, hi⟩
theorem Wi {w w' : World} {t : aA} {names : List ByteArray} {c : Int} (hE : aL t names = c) (hc : c ≠ 0) (hu : Up w w') : nW w t names (.returned (.tuple #[.slice none 0 0, .int .i64 c])) w' := by
 refine ⟨hu, .slice none 0 0, by rw [hE], ?_⟩
 have h0 : az t names = [] := by
  unfold az
  rw [if_neg (by rw [hE]; exact hc)]
 rw [h0]
 exact ⟨fun _ => undef, ⟨none, 0, rfl, Nat.le_refl _, .inl rfl⟩, fun k hk => absurd hk (Nat.not_lt_zero _)⟩
theorem vS {t : aA} {names : List ByteArray} {k : Nat} (h : names.length ≤ 32) : (aU names.length (aN t names k)).length ≤ 64 := by
 unfold aU
 split
 ·rw [PZ]; have := C5 (aN t names k) names.length; omega
 ·have h1 : (aN t names k).length ≤ names.length := ja _ _
  omega
theorem y7 (t : aA) (names : List ByteArray) (k : Nat) {a : Nat} (ha : a < (owK t names k).length) (h : names.length ≤ 32) : (gl (owK t names k) a).length ≤ 1000000 := by
 obtain ⟨j, _, _, _, e⟩ := yY.1 (O1 ha)
 rw [e]
 have := vS (t := t) (k := j) h
 omega
theorem cV {b : Nat} {w x y : World} (h : Below b w x) (h2 : Below b x y) : Below b w y := Below.trans h h2
theorem vT {w x : World} (h : Below w.heap.size w x) {a : Addr} {v : Value} (hc : w.cell? a = some v) : x.cell? a = some v := Up.cell h hc
theorem of_okR {w w' : World} {t : aA} {names : List ByteArray} {u : Value} (hE : aL t names = 0) (hu : Up w w') (hr : aJ Any w' u (az t names)) : nW w t names (.returned (.tuple #[u, .int .i64 0])) w' :=
 ⟨hu, u, by rw [hE], hr⟩
set_option maxHeartbeats 8000000 in
theorem Dg (S T : Nat → Prop) (w : World) (v vs : Value) (t : aA) (names : List ByteArray) (hT : aG S w v t) (hV : ay T w vs names) (hp : t.ps.length ≤ 1000000) (hn : t.ns.length ≤ 1000000) (hz : ∀ k, (gs t.ns k).size ≤ 70000) (hnl : names.length ≤ 1000000) :
  Calls Tryz.prog 33 #[v, vs] w (nW w t names) := by
 obtain ⟨P, N, rfl, hP, hN⟩ := hT
 obtain ⟨pp, pc, rfl, -, -⟩ := av.open hP
 obtain ⟨np, nc, rfl, -, -⟩ := av.open hN
 obtain ⟨mp, mc, rfl, -, -⟩ := av.open hV
 have hP : af S w (.slice pp t.ps.length pc) t.ps := hP
 have hN : ay S w (.slice np t.ns.length nc) t.ns := hN
 have hV : ay T w (.slice mp names.length mc) names := hV
 have hu := Up.alloc w (.cells #[.slice pp t.ps.length pc, .slice np t.ns.length nc] 39)
 have b0 := cB w (.slice pp t.ps.length pc) (.slice np t.ns.length nc) 39
 have b1 := cI w (.slice pp t.ps.length pc) (.slice np t.ns.length nc) 39
 have gm := aa b0
 have gz := aa b1
 have HT : Hid (aG S (w.alloc (.cells #[.slice pp t.ps.length pc, .slice np t.ns.length nc] 39)) (.agg #[.slice pp t.ps.length pc, .slice np t.ns.length nc]) t) := aG.keep ⟨_, _, rfl, hP, hN⟩ (hu.kept _)
 have HN := aa (ay.keep hN (hu.kept _))
 have HV := aa (ay.keep hV (hu.kept _))
 have HU := aa hu
 have HF := aa (Tb S T _ _ _ t names HT.out HV.out hp hn hz hnl)
 clear hu hP hN hV hn hz hp hnl
 go_enter Tryz.func33, Tryz.ntmps33
 go_wp2_with fail
 generalize w.alloc (.cells #[.slice pp t.ps.length pc, .slice np t.ns.length nc] 39) = w1 at *
 generalize w.heap.size = tb at *
 refine HF.out.mono ?_
 rintro e w2 ⟨rfl, aC⟩
 have b0 := aC.cell gm.out
 have b1 := aC.cell gz.out
 have bU := aa aC
 clear aC HF
 by_cases h0 : aL t names = 0
 case neg =>
  have HZ := aa h0
  have e1 : (aL t names != 0) = true := by simpa using h0
  have AO : Hid (∀ c, aL t names = c → c ≠ 0 → nW w t names (.returned (.tuple #[.slice none 0 0, .int .i64 c])) w2) := fun c h1 h2 => Wi h1 h2 (HU.out.trans bU.out)
  obtain ⟨c, hc⟩ : ∃ c, c = aL t names := ⟨_, rfl⟩
  rw [← hc] at e1
  rw [← hc]
  have HC := aa hc
  clear h0 hc
  go_wp2_with fail
  exact ⟨rfl, .tuple #[.slice none 0 0, .int .i64 c], by simp [results, Tryz.results33, go_sem], AO.out c HC.out.symm (by rw [HC.out]; exact HZ.out)⟩
 case pos =>
 have fJ := aa (mW.1 h0)
 have HE := aa h0
 rw [h0]
 have cO : Hid (0 < t.ps.length ∧ t.ps.length ≤ 64 ∧ t.ns.length = t.ps.length ∧ fK t.ps = true) := by
  obtain ⟨h1, h2, h3, h4, _⟩ := aH fJ.out.te
  exact ⟨h1, h2, by omega, h4⟩
 clear h0
 have HOI : Hid (OI (w2.alloc (.cells #[] 26)) (.slice (some ⟨w2.heap.size, 0, none⟩) 0 0) []) := ⟨_, _, fun _ => undef, rfl, Nat.le_refl _, fun k hk => absurd hk (Nat.not_lt_zero _), fun k hk => absurd hk (Nat.not_lt_zero _)⟩
 have kR := aa (Up.alloc w2 (.cells #[] 26))
 have MS := aa (kR.out.cell b0)
 have MT := aa (kR.out.cell b1)
 go_wp2_with fail
 clear b0 b1
 go_loopw [7, 8] (fun o i wr => ∃ k : Nat, 1 ≤ k ∧ k ≤ t.ps.length ∧ i = .int .i64 k ∧ Hid (OI wr o (owK t names (k - 1))) ∧ Hid (Up (w2.alloc (.cells #[] 26)) wr)) (fun _ i _ => t.ps.length - (intOf i).toNat)
 case atStart => exact ⟨1, Nat.le_refl _, cO.out.1, rfl, HOI.out, Up.refl _⟩
 case round =>
  obtain ⟨k, gT, hk, rfl, hO, bL⟩ := hrel
  obtain ⟨wo, rfl⟩ : ∃ wo : World, wo = wr := ⟨_, rfl⟩
  have gF := aa (bU.out.trans (kR.out.trans bL.out))
  have b0 := bL.out.cell MS.out
  have b1 := bL.out.cell MT.out
  by_cases hlt : k < t.ps.length
  case neg =>
   obtain rfl : k = t.ps.length := by omega
   have hR := hO.out.rows
   have hS : owK t names (t.ps.length - 1) = az t names := by unfold az; rw [V4 cO.out.1, if_pos HE.out]
   rw [hS] at hR
   have HR := aa hR
   have i1 : ¬ (t.ps.length : Int) < (t.ps.length : Int) := by omega
   clear hR hS hlt hk gT hO bL
   go_wp2_with fail
   exact ⟨rfl, .tuple #[_, .int .i64 0], by simp [results, Tryz.results33, go_sem], of_okR HE.out (HU.out.trans gF.out) HR.out⟩
  case pos =>
  have HTo := aa (HT.out.keep (gF.out.kept _))
  have LA := aa (ay.keep HN.out (gF.out.kept _))
  have HVo := aa (ay.keep HV.out (gF.out.kept _))
  have i2 : (k : Int) < (t.ps.length : Int) := by omega
  have HK := aa (And.intro gT hlt)
  have HO := aa hO.out
  have B0o := aa b0
  have B1o := aa b1
  have ER := aa bL.out
  have i4 : (k : Int) < 64 := by have := cO.out.2.1; omega
  have HM := aa (ah.made wo 3)
  have HUM := aa (Up.alloc wo (.cells #[] 3))
  clear gT hk hlt hO bL
  go_wp2_with fail
  clear b0 b1
  go_loopw [9, 10] (fun o i wr => ∃ n : Nat, n ≤ names.length ∧ i = .int .i64 n ∧ Hid (ah wo.heap.size 3 wr o ((ownK t names k n).map (Value.int .i64))) ∧ Hid (Up wo wr)) (fun _ i _ => names.length - (intOf i).toNat)
  case atStart => exact ⟨0, Nat.zero_le _, rfl, HM.out, HUM.out⟩
  case round =>
   obtain ⟨n, hn, rfl, hO, bL⟩ := hrel
   obtain ⟨wi, rfl⟩ : ∃ wi : World, wi = wr := ⟨_, rfl⟩
   by_cases hlt : n < names.length
   case pos =>
    obtain ⟨nb, no, rfl, eH⟩ := cC HVo.out hlt
    have i5 : (n : Int) < (names.length : Int) := by omega
    have i6 : (0 : Int) ≤ (n : Int) := by omega
    have i7 : (n : Int) < 64 := by have := fJ.out.le; omega
    have b1 := bL.out.cell B1o.out
    have jd := aa eH
    have pJ := aa hlt
    have QH := aa bL.out
    have HO0 := aa (QF hO.out)
    clear eH hlt hn bL hO
    go_wp2_with fail
    go_loopw [9, 11] (fun o i wr => ∃ m : Nat, m ≤ t.ns.length ∧ i = .int .i64 m ∧ Hid (ah wo.heap.size 3 wr o ((ownK t names k n ++ if qi t names k n m = true then [(n : Int)] else []).map (Value.int .i64))) ∧ Hid (Up wo wr)) (fun _ i _ => t.ns.length - (intOf i).toNat)
    case atStart => exact ⟨0, Nat.zero_le _, rfl, HO0.out, QH.out⟩
    case round =>
     obtain ⟨m, hm, rfl, hO, bL⟩ := hrel
     obtain ⟨wj, rfl⟩ : ∃ wj : World, wj = wr := ⟨_, rfl⟩
     have LB := aa bL.out
     have b0 := LB.out.cell B0o.out
     have b1 := LB.out.cell B1o.out
     by_cases hlt : m < t.ns.length
     case pos =>
      obtain ⟨xb, xo, rfl, zb⟩ := cC (ay.keep LA.out (LB.out.kept _)) hlt
      have i8 : (m : Int) < (t.ns.length : Int) := by omega
      have i9 : (0 : Int) ≤ (m : Int) := by omega
      have i10 : (m : Int) < 64 := by have := cO.out.2.1; have := cO.out.2.2.1; omega
      have eH := bL.out.cell jd.out
      have wC := aa (And.intro hm hlt)
      have tE := aa hO.out
      have TQ := aa bL.out
      have HQ : Hid (sF t names k n m = (decide (gs t.ns m = gs names n) && dm t.ps k m)) := rfl
      have jS := aa (fun W (hW : Up wj W) => MX S W _ t m k (HTo.out.keep ((LB.out.trans hW).kept _)) cO.out.2.2.2 (by have := cO.out.2.2.1; omega) HK.out.2)
      by_cases e : gs t.ns m = gs names n
      case neg =>
       have t1 : ((gs t.ns m).toList == (gs names n).toList) = false := by rw [tB]; exact decide_eq_false e
       have LC : Hid (sF t names k n m = false) := by unfold Hid; rw [HQ.out, decide_eq_false e]; rfl
       have uM := aa (I6 LC.out tE.out)
       clear e hlt hm hO bL tE HQ
       generalize gs t.ns m = xs at *
       generalize gs names n = ys at *
       go_wp2_with fail
       go_quiet (fail)
       go_wp2_with fail
       go_roundw
       case rel => exact ⟨m + 1, wC.out.2, by go_num, uM.out.kept fun b hb hl => rfl, TQ.out.trans (Up.drewN _ _)⟩
       case measure => have := wC.out.2; simp [intOf]; omega
      case pos =>
       have t1 : ((gs t.ns m).toList == (gs names n).toList) = true := by rw [tB]; exact decide_eq_true e
       cases hh : dm t.ps k m
       case false =>
        rw [hh] at jS
        have LC : Hid (sF t names k n m = false) := by unfold Hid; rw [HQ.out, hh, Bool.and_false]
        have uM := aa (I6 LC.out tE.out)
        clear e hlt hm hO bL tE HQ hh
        generalize gs t.ns m = xs at *
        generalize gs names n = ys at *
        go_wp2_with fail
        have aW : Hid (Up wj (wj.drewN 1)) := Up.drewN wj 1
        have HCX := aa zb
        have TR := aa eH
        have TS := aa b0
        have TT := aa b1
        clear zb eH b0 b1
        go_region_held3 (fun w' => Hid (Up wj w') ∧ w'.cell? ⟨tb, 0, none⟩ = some (.slice pp t.ps.length pc) ∧ w'.cell? ⟨tb, 1, none⟩ = some (.slice (some ⟨xb, xo, none⟩) t.ns.length nc) ∧ w'.cell? ⟨xb, xo + m, none⟩ = some (.string xs) ∧ w'.cell? ⟨nb, no + n, none⟩ = some (.string ys)) (exact ⟨aW, aW.out.cell TS.out, aW.out.cell TT.out, aW.out.cell HCX.out, aW.out.cell TR.out⟩) (first | (go_at_call 109; refine (jS.out _ aW.out).mono ?_; rintro e w' ⟨rfl, hu⟩; have aW : Hid (Up wj w') := aW.out.trans hu; clear hu))
        have HOW := aa (uM.out.kept fun b _ hl => Below.block aW.out b hl)
        have gR := aa aW.out
        clear aW
        go_wp2_with fail
        go_roundw
        case rel => exact ⟨m + 1, wC.out.2, by go_num, HOW.out, TQ.out.trans gR.out⟩
        case measure => have := wC.out.2; simp [intOf]; omega
       case true =>
        rw [hh] at jS
        have LC : Hid (sF t names k n m = true) := by unfold Hid; rw [HQ.out, hh, decide_eq_true e]; rfl
        have uM := aa (TN (TK fJ.out pJ.out hlt LC.out) tE.out)
        have dr : Hid (((ownK t names k n).map (Value.int .i64)).length = (ownK t names k n).length) := List.length_map _
        have cL : Hid ((ownK t names k n).length ≤ 1000000) := by have := I4 t names k n; have := pJ.out; have := fJ.out.le; unfold Hid; omega
        clear e hlt hm hO bL tE HQ hh
        generalize gs t.ns m = xs at *
        generalize gs names n = ys at *
        go_wp2_with fail
        have aW : Hid (Up wj (wj.drewN 1)) := Up.drewN wj 1
        have HCX := aa zb
        have TR := aa eH
        have TS := aa b0
        have TT := aa b1
        clear zb eH b0 b1
        go_region_held3 (fun w' => Hid (Up wj w') ∧ w'.cell? ⟨tb, 0, none⟩ = some (.slice pp t.ps.length pc) ∧ w'.cell? ⟨tb, 1, none⟩ = some (.slice (some ⟨xb, xo, none⟩) t.ns.length nc) ∧ w'.cell? ⟨xb, xo + m, none⟩ = some (.string xs) ∧ w'.cell? ⟨nb, no + n, none⟩ = some (.string ys)) (exact ⟨aW, aW.out.cell TS.out, aW.out.cell TT.out, aW.out.cell HCX.out, aW.out.cell TR.out⟩) (first | (go_at_call 109; refine (jS.out _ aW.out).mono ?_; rintro e w' ⟨rfl, hu⟩; have aW : Hid (Up wj w') := aW.out.trans hu; clear hu))
        have HOW := aa (uM.out.kept fun b _ hl => Below.block aW.out b hl)
        have gR := aa aW.out
        have hsz := (LB.out.trans gR.out).size
        clear aW
        go_wp2_with (at_builtin; refine fW _ rfl _ _ 26 rfl wo.heap.size 3 (.int .i64 0) 8 Tryz.underlying26 Tryz.fU rfl (by decide) HOW.out rfl (.int .i64 (n : Int)) _ rfl rfl rfl _ dr.out cL.out hsz ?_; intro g8 iZ w8 hown1 MV di)
        go_roundw
        case rel => exact ⟨m + 1, wC.out.2, by go_num, TP LC.out hown1, Below.trans (TQ.out.trans gR.out) di⟩
        case measure => have := wC.out.2; simp [intOf]; omega
     case neg =>
      obtain rfl : m = t.ns.length := by omega
      have tE := aa hO.out
      have i8 : ¬ (t.ns.length : Int) < (t.ns.length : Int) := by omega
      have pQ : Hid (ownK t names k (n + 1) = ownK t names k n ++ if qi t names k n t.ns.length = true then [(n : Int)] else []) := rfl
      rw [← pQ.out] at tE
      clear hlt hm hO bL
      go_wp2_with fail
      go_roundw
      case rel => exact ⟨n + 1, pJ.out, by go_num, tE.out, LB.out⟩
      case measure => have := pJ.out; simp [intOf]; omega
   case neg =>
    obtain rfl : n = names.length := by omega
    have tE := aa hO.out
    rw [TM fJ.out k] at tE
    have QH := aa bL.out
    have i5 : ¬ (names.length : Int) < (names.length : Int) := by omega
    clear hlt hn hO bL
    have gD : Hid (aU names.length (aN t names k) = if (aN t names k).contains 0 then aS names.length (aN t names k) else (aN t names k)) := rfl
    have dr : Hid ((aN t names k).length ≤ 32) := Nat.le_trans (ja _ _) fJ.out.le
    have HI := aa tE.out.ints
    have HH := aa (uL _ wi _ _ 0 HI.out (by have := dr.out; omega))
    have S3 : Hid (cz (aN t names k)) := ⟨oK _ _ _, fun x hx => by have h1 := gY.1 hx; have h2 := fJ.out.le; omega⟩
    have nG := aa (EF _ wi _ names.length _ HI.out (by have := dr.out; omega) fJ.out.le S3.out (fun x hx => (gY.1 hx).2.1))
    go_wp2_with fail
    refine HH.out.mono ?_
    rintro e wi2 ⟨rfl, rfl⟩
    cases hc0 : (aN t names k).contains 0
    case false =>
     have vU := aa (af.sub HI.out (T := Any) fun _ _ _ => trivial)
     have hsp : aU names.length (aN t names k) = aN t names k := by rw [gD.out, hc0]; rfl
     rw [← hsp] at vU
     clear hsp
     obtain ⟨xq, xc, rfl, -, -⟩ := av.open vU.out
     have sj : Hid (af Any wi (.slice xq (aU names.length (aN t names k)).length xc) (aU names.length (aN t names k))) := vU.out
     obtain ⟨wc, hwc⟩ : ∃ wc : World, wc = wi := ⟨_, rfl⟩
     rw [← hwc] at sj QH
     rw [← hwc]
     have I8 := aa QH.out
     clear hwc HH nG HI tE vU hc0 gD
     obtain ⟨g, cap, f, rfl, hcap, uJ, hrw⟩ := HO.out
     have I9 := aa hrw
     have lW := aa uJ
     have vV := aa hcap
     clear hrw uJ hcap
     have nX : Hid ((owK t names (k - 1)).length ≤ 64) := by have := C7 t names (k - 1); have := HK.out.2; have := cO.out.2.1; unfold Hid; omega
     have wG : Hid ((aU names.length (aN t names k)).length ≤ 64) := vS fJ.out.le
     have e9 := aa (C8 Any wc _ (names.length : Int) _ sj.out (by have := wG.out; omega))
     go_wp2_with fail
     refine e9.out.mono ?_
     rintro e wd ⟨rfl, QI⟩
     have Ja := aa QI
     clear QI e9
     by_cases hs : aF names.length (aU names.length (aN t names k)) = 0
     case neg =>
      have e1 : (aF names.length (aU names.length (aN t names k)) != 0) = true := by simpa using hs
      have qf := aa (I7 HK.out.1 hs)
      clear hs
      go_wp2_with fail
      go_roundw
      case rel => exact ⟨k + 1, by omega, HK.out.2, by go_num, by unfold Hid; rw [qf.out]; exact HO.out.up (I8.out.trans Ja.out.up), ER.out.trans (I8.out.trans Ja.out.up)⟩
      case measure => have := HK.out.2; simp [intOf]; omega
     case pos =>
     have gJ := aa hs
     rw [hs]
     clear hs
     go_wp2_with fail
     go_loopw [12] (fun i wr => ∃ a : Nat, a ≤ (owK t names (k - 1)).length ∧ i = .int .i64 a ∧ Hid (QD wd wr) ∧ Hid (∀ j, j < a → cmpL (gl (owK t names (k - 1)) j) (aU names.length (aN t names k)) < 0)) (fun i _ => (owK t names (k - 1)).length - (intOf i).toNat)
     case atStart => exact ⟨0, Nat.zero_le _, rfl, QD.refl _, fun j hj => absurd hj (Nat.not_lt_zero _)⟩
     case round =>
      obtain ⟨a, ha, rfl, hQ, xw⟩ := hrel
      obtain ⟨wf, rfl⟩ : ∃ wf : World, wf = wr := ⟨_, rfl⟩
      have oT := aa (Ja.out.up.trans hQ.out.up)
      have uO := aa (I8.out.trans oT.out)
      have yz := aa xw.out
      have cG := aa ha
      have HQf := aa hQ.out
      have i5 : (0 : Int) ≤ (a : Int) := by omega
      have i6 : (a : Int) < 100 := by have := nX.out; omega
      by_cases hlt : a < (owK t names (k - 1)).length
      case neg =>
       have i7 : ¬ (a : Int) < ((owK t names (k - 1)).length : Int) := by omega
       have Py : Hid (a = (owK t names (k - 1)).length) := by unfold Hid; omega
       obtain ⟨we, ou⟩ : ∃ we : World, we = wf := ⟨_, rfl⟩
       rw [← ou] at oT uO
       rw [← ou]
       have sG := aa uO.out
       have AP := aa oT.out
       clear hlt xw ha hQ ou
       have od := aa (y6 cG.out yz.out (.inl Py.out))
       have eU := aa (qT HK.out.1 gJ.out)
       rw [od.out] at eU
       have sH : Hid (∀ j, j < (owK t names (k - 1)).length → af Any we (f j) (gl (owK t names (k - 1)) j)) := fun j hj => af.keep (I9.out j hj) (sG.out.kept _)
       have yC : Hid (∀ j, j < (owK t names (k - 1)).length → we.cell? ⟨g, 0 + j, none⟩ = some (f j)) := fun j hj => sG.out.cell (lW.out j hj)
       have Jb := aa (af.keep sj.out (AP.out.kept _))
       have Jc := aa (ah.made we 26)
       have sI := aa (Up.alloc we (.cells #[] 26))
       have BH : Hid (([] ++ (List.range a).map f : List Value).length = a) := by unfold Hid; simp
       have BI : Hid ((([] ++ (List.range a).map f) ++ [Value.slice xq (aU names.length (aN t names k)).length xc] : List Value).length = a + 1) := by unfold Hid; simp
       have j1 : a ≤ (owK t names (k - 1)).length := cG.out
       have j2 : (a : Int) ≤ ((owK t names (k - 1)).length : Int) := by have := cG.out; omega
       have j3 : (owK t names (k - 1)).length ≤ cap := vV.out
       have j4 : (0 : Int) ≤ (a : Int) := by omega
       go_wp2_with (first
        | (at_builtin; refine gV (we.alloc (.cells #[] 26)) rfl _ _ 23 rfl we.heap.size 26 (.slice none 0 0) 24 Tryz.underlying23 Tryz.gB rfl (by decide) Jc.out rfl (by simp) g 0 a _ rfl f (fun j hj => sI.out.cell (yC.out j (by have := cG.out; omega))) (fun j hj => OI.one (sH.out j (by have := cG.out; omega))) 0 a rfl (Nat.zero_add _) (by have := cG.out; have := nX.out; omega) (by simp) ?_; intro g1 TU wa hown1 di)
        | (at_builtin; refine fW wa rfl _ _ 23 rfl we.heap.size 26 (.slice none 0 0) 24 Tryz.underlying23 Tryz.gB rfl (by decide) hown1 rfl (.slice xq (aU names.length (aN t names k)).length xc) _ rfl rfl rfl a BH.out (by have := cG.out; have := nX.out; omega) (by have := di.size; rw [World.size_alloc] at this; omega) ?_; intro g2 bJ wb hown2 TV mG)
        | (at_builtin; refine gV wb rfl _ _ 23 rfl we.heap.size 26 (.slice none 0 0) 24 Tryz.underlying23 Tryz.gB rfl (by decide) hown2 rfl (by simp) g (if cap = a then 0 else a) ((owK t names (k - 1)).length - a) (cap - a) (by show (Value.slice _ _ _ : Value) = _; congr 1; by_cases q1 : cap = a <;> by_cases q2 : a = 0 <;> first | (simp [q1, q2]; done) | (exfalso; omega)) (fun j => f (a + j)) (fun j hj => by have h0 := vV.out; rw [if_neg (by omega : ¬ cap = a)]; have h1 := vT (cV (cV sI.out di) mG) (yC.out (a + j) (by omega)); rwa [Nat.zero_add] at h1) (fun j hj => OI.one (sH.out (a + j) (by omega))) (a + 1) ((owK t names (k - 1)).length + 1) BI.out (by have := cG.out; omega) (by have := nX.out; omega) (by have := di.size; have := mG.size; rw [World.size_alloc] at *; omega) ?_; intro g3 TW wz k9 AQ))
       all_goals (
        have sJ : Hid (Up we wz) := cV (cV (cV sI.out di) mG) AQ
        go_roundw
        case rel => exact ⟨k + 1, by omega, HK.out.2, by go_num, by unfold Hid; rw [eU.out]; exact OI.ins cG.out k9 (fun j hj => af.keep (sH.out j hj) (sJ.out.kept _)) (af.keep Jb.out (sJ.out.kept _)), ER.out.trans (sG.out.trans sJ.out)⟩
        case measure => have := HK.out.2; simp [intOf]; omega)
      case pos =>
       obtain ⟨rq, rc, hca, nH⟩ := QG (fun j hj => uO.out.cell (lW.out j hj)) (fun j hj => af.keep (I9.out j hj) (uO.out.kept _)) hlt
       have i7 : (a : Int) < ((owK t names (k - 1)).length : Int) := by omega
       have nu := aa (Iu Any Any wf _ _ _ _ nH (af.keep sj.out (oT.out.kept _)) (y7 t names (k - 1) hlt fJ.out.le) (by have := wG.out; omega))
       have aM := aa hlt
       have D1 := aa nH
       have vZ := aa hca
       cases hcm : decide (cmpL (gl (owK t names (k - 1)) a) (aU names.length (aN t names k)) < 0)
       case true =>
        rw [hcm] at nu
        have nG := aa (of_decide_eq_true hcm)
        clear hlt xw ha hQ nH hcm
        go_wp2_with fail
        refine nu.out.mono ?_
        rintro e w' ⟨rfl, hq⟩
        obtain ⟨nq, rfl⟩ := hq
        have yD := aa (HQf.out.drewN nq)
        go_wp2_with fail
        go_roundw
        case rel => exact ⟨a + 1, aM.out, by go_num, yD.out, fun j hj => by
         by_cases q : j = a
         ·subst q; exact nG.out
         ·exact yz.out j (by omega)⟩
        case measure => have := aM.out; simp [intOf]; omega
       case false =>
        rw [hcm] at nu
        have nG := aa (Int.not_lt.1 (of_decide_eq_false hcm))
        clear hlt xw ha hQ nH hcm
        go_wp2_with fail
        refine nu.out.mono ?_
        rintro e w' ⟨rfl, hq⟩
        have yD := aa hq
        have hca := hq.up.cell vZ.out
        have oa := aa (kS Any Any w' _ _ _ _ (af.keep D1.out (hq.up.kept _)) (af.keep sj.out ((oT.out.trans hq.up).kept _)) (y7 t names (k - 1) aM.out fJ.out.le) (by have := wG.out; omega))
        clear hq
        go_wp2_with fail
        cases hsm : decide (gl (owK t names (k - 1)) a = aU names.length (aN t names k))
        case true =>
         rw [hsm] at oa
         have HTH := aa (EP aM.out yz.out (Int.not_lt.2 nG.out) (of_decide_eq_true hsm))
         have eU := aa (qT HK.out.1 gJ.out)
         rw [HTH.out] at eU
         clear hsm
         refine oa.out.mono ?_
         rintro e we ⟨rfl, nq, rfl⟩
         have QJ := aa (uO.out.trans (yD.out.up.trans (Up.drewN w' nq)))
         go_wp2_with fail
         go_roundw
         case rel => exact ⟨k + 1, by omega, HK.out.2, by go_num, by unfold Hid; rw [eU.out]; exact HO.out.up QJ.out, ER.out.trans QJ.out⟩
         case measure => have := HK.out.2; simp [intOf]; omega
        case false =>
         rw [hsm] at oa
         have xd := aa (of_decide_eq_false hsm)
         clear hsm
         refine oa.out.mono ?_
         rintro e we ⟨rfl, nq, ou⟩
         have sG : Hid (Up wo we) := by rw [ou]; exact uO.out.trans (yD.out.up.trans (Up.drewN w' nq))
         have AP : Hid (Up wc we) := by rw [ou]; exact oT.out.trans (yD.out.up.trans (Up.drewN w' nq))
         clear ou hca
         have od := aa (y6 cG.out yz.out (.inr ⟨Int.not_lt.2 nG.out, xd.out⟩))
         have eU := aa (qT HK.out.1 gJ.out)
         rw [od.out] at eU
         have sH : Hid (∀ j, j < (owK t names (k - 1)).length → af Any we (f j) (gl (owK t names (k - 1)) j)) := fun j hj => af.keep (I9.out j hj) (sG.out.kept _)
         have yC : Hid (∀ j, j < (owK t names (k - 1)).length → we.cell? ⟨g, 0 + j, none⟩ = some (f j)) := fun j hj => sG.out.cell (lW.out j hj)
         have Jb := aa (af.keep sj.out (AP.out.kept _))
         have Jc := aa (ah.made we 26)
         have sI := aa (Up.alloc we (.cells #[] 26))
         have BH : Hid (([] ++ (List.range a).map f : List Value).length = a) := by unfold Hid; simp
         have BI : Hid ((([] ++ (List.range a).map f) ++ [Value.slice xq (aU names.length (aN t names k)).length xc] : List Value).length = a + 1) := by unfold Hid; simp
         have j1 : a ≤ (owK t names (k - 1)).length := cG.out
         have j2 : (a : Int) ≤ ((owK t names (k - 1)).length : Int) := by have := cG.out; omega
         have j3 : (owK t names (k - 1)).length ≤ cap := vV.out
         have j4 : (0 : Int) ≤ (a : Int) := by omega
         go_wp2_with (first
          | (at_builtin; refine gV (we.alloc (.cells #[] 26)) rfl _ _ 23 rfl we.heap.size 26 (.slice none 0 0) 24 Tryz.underlying23 Tryz.gB rfl (by decide) Jc.out rfl (by simp) g 0 a _ rfl f (fun j hj => sI.out.cell (yC.out j (by have := cG.out; omega))) (fun j hj => OI.one (sH.out j (by have := cG.out; omega))) 0 a rfl (Nat.zero_add _) (by have := cG.out; have := nX.out; omega) (by simp) ?_; intro g1 TU wa hown1 di)
          | (at_builtin; refine fW wa rfl _ _ 23 rfl we.heap.size 26 (.slice none 0 0) 24 Tryz.underlying23 Tryz.gB rfl (by decide) hown1 rfl (.slice xq (aU names.length (aN t names k)).length xc) _ rfl rfl rfl a BH.out (by have := cG.out; have := nX.out; omega) (by have := di.size; rw [World.size_alloc] at this; omega) ?_; intro g2 bJ wb hown2 TV mG)
          | (at_builtin; refine gV wb rfl _ _ 23 rfl we.heap.size 26 (.slice none 0 0) 24 Tryz.underlying23 Tryz.gB rfl (by decide) hown2 rfl (by simp) g (if cap = a then 0 else a) ((owK t names (k - 1)).length - a) (cap - a) (by show (Value.slice _ _ _ : Value) = _; congr 1; by_cases q1 : cap = a <;> by_cases q2 : a = 0 <;> first | (simp [q1, q2]; done) | (exfalso; omega)) (fun j => f (a + j)) (fun j hj => by have h0 := vV.out; rw [if_neg (by omega : ¬ cap = a)]; have h1 := vT (cV (cV sI.out di) mG) (yC.out (a + j) (by omega)); rwa [Nat.zero_add] at h1) (fun j hj => OI.one (sH.out (a + j) (by omega))) (a + 1) ((owK t names (k - 1)).length + 1) BI.out (by have := cG.out; omega) (by have := nX.out; omega) (by have := di.size; have := mG.size; rw [World.size_alloc] at *; omega) ?_; intro g3 TW wz k9 AQ))
         all_goals (
          have sJ : Hid (Up we wz) := cV (cV (cV sI.out di) mG) AQ
          go_roundw
          case rel => exact ⟨k + 1, by omega, HK.out.2, by go_num, by unfold Hid; rw [eU.out]; exact OI.ins cG.out k9 (fun j hj => af.keep (sH.out j hj) (sJ.out.kept _)) (af.keep Jb.out (sJ.out.kept _)), ER.out.trans (sG.out.trans sJ.out)⟩
          case measure => have := HK.out.2; simp [intOf]; omega)
    case true =>
     go_wp2_with fail
     refine nG.out.mono ?_
     rintro e wc ⟨hu, x, rfl, EL⟩
     have I8 := aa (QH.out.trans hu)
     have vU := aa (af.sub EL.ints (T := Any) fun _ _ _ => trivial)
     have hsp : aU names.length (aN t names k) = aS names.length (aN t names k) := by rw [gD.out, hc0]; rfl
     rw [← hsp] at vU
     clear hsp
     obtain ⟨xq, xc, rfl, -, -⟩ := av.open vU.out
     have sj : Hid (af Any wc (.slice xq (aU names.length (aN t names k)).length xc) (aU names.length (aN t names k))) := vU.out
     clear HH nG HI tE vU hc0 gD hu EL
     obtain ⟨g, cap, f, rfl, hcap, uJ, hrw⟩ := HO.out
     have I9 := aa hrw
     have lW := aa uJ
     have vV := aa hcap
     clear hrw uJ hcap
     have nX : Hid ((owK t names (k - 1)).length ≤ 64) := by have := C7 t names (k - 1); have := HK.out.2; have := cO.out.2.1; unfold Hid; omega
     have wG : Hid ((aU names.length (aN t names k)).length ≤ 64) := vS fJ.out.le
     have e9 := aa (C8 Any wc _ (names.length : Int) _ sj.out (by have := wG.out; omega))
     go_wp2_with fail
     refine e9.out.mono ?_
     rintro e wd ⟨rfl, QI⟩
     have Ja := aa QI
     clear QI e9
     by_cases hs : aF names.length (aU names.length (aN t names k)) = 0
     case neg =>
      have e1 : (aF names.length (aU names.length (aN t names k)) != 0) = true := by simpa using hs
      have qf := aa (I7 HK.out.1 hs)
      clear hs
      go_wp2_with fail
      go_roundw
      case rel => exact ⟨k + 1, by omega, HK.out.2, by go_num, by unfold Hid; rw [qf.out]; exact HO.out.up (I8.out.trans Ja.out.up), ER.out.trans (I8.out.trans Ja.out.up)⟩
      case measure => have := HK.out.2; simp [intOf]; omega
     case pos =>
     have gJ := aa hs
     rw [hs]
     clear hs
     go_wp2_with fail
     go_loopw [12] (fun i wr => ∃ a : Nat, a ≤ (owK t names (k - 1)).length ∧ i = .int .i64 a ∧ Hid (QD wd wr) ∧ Hid (∀ j, j < a → cmpL (gl (owK t names (k - 1)) j) (aU names.length (aN t names k)) < 0)) (fun i _ => (owK t names (k - 1)).length - (intOf i).toNat)
     case atStart => exact ⟨0, Nat.zero_le _, rfl, QD.refl _, fun j hj => absurd hj (Nat.not_lt_zero _)⟩
     case round =>
      obtain ⟨a, ha, rfl, hQ, xw⟩ := hrel
      obtain ⟨wf, rfl⟩ : ∃ wf : World, wf = wr := ⟨_, rfl⟩
      have oT := aa (Ja.out.up.trans hQ.out.up)
      have uO := aa (I8.out.trans oT.out)
      have yz := aa xw.out
      have cG := aa ha
      have HQf := aa hQ.out
      have i5 : (0 : Int) ≤ (a : Int) := by omega
      have i6 : (a : Int) < 100 := by have := nX.out; omega
      by_cases hlt : a < (owK t names (k - 1)).length
      case neg =>
       have i7 : ¬ (a : Int) < ((owK t names (k - 1)).length : Int) := by omega
       have Py : Hid (a = (owK t names (k - 1)).length) := by unfold Hid; omega
       obtain ⟨we, ou⟩ : ∃ we : World, we = wf := ⟨_, rfl⟩
       rw [← ou] at oT uO
       rw [← ou]
       have sG := aa uO.out
       have AP := aa oT.out
       clear hlt xw ha hQ ou
       have od := aa (y6 cG.out yz.out (.inl Py.out))
       have eU := aa (qT HK.out.1 gJ.out)
       rw [od.out] at eU
       have sH : Hid (∀ j, j < (owK t names (k - 1)).length → af Any we (f j) (gl (owK t names (k - 1)) j)) := fun j hj => af.keep (I9.out j hj) (sG.out.kept _)
       have yC : Hid (∀ j, j < (owK t names (k - 1)).length → we.cell? ⟨g, 0 + j, none⟩ = some (f j)) := fun j hj => sG.out.cell (lW.out j hj)
       have Jb := aa (af.keep sj.out (AP.out.kept _))
       have Jc := aa (ah.made we 26)
       have sI := aa (Up.alloc we (.cells #[] 26))
       have BH : Hid (([] ++ (List.range a).map f : List Value).length = a) := by unfold Hid; simp
       have BI : Hid ((([] ++ (List.range a).map f) ++ [Value.slice xq (aU names.length (aN t names k)).length xc] : List Value).length = a + 1) := by unfold Hid; simp
       have j1 : a ≤ (owK t names (k - 1)).length := cG.out
       have j2 : (a : Int) ≤ ((owK t names (k - 1)).length : Int) := by have := cG.out; omega
       have j3 : (owK t names (k - 1)).length ≤ cap := vV.out
       have j4 : (0 : Int) ≤ (a : Int) := by omega
       go_wp2_with (first
        | (at_builtin; refine gV (we.alloc (.cells #[] 26)) rfl _ _ 23 rfl we.heap.size 26 (.slice none 0 0) 24 Tryz.underlying23 Tryz.gB rfl (by decide) Jc.out rfl (by simp) g 0 a _ rfl f (fun j hj => sI.out.cell (yC.out j (by have := cG.out; omega))) (fun j hj => OI.one (sH.out j (by have := cG.out; omega))) 0 a rfl (Nat.zero_add _) (by have := cG.out; have := nX.out; omega) (by simp) ?_; intro g1 TU wa hown1 di)
        | (at_builtin; refine fW wa rfl _ _ 23 rfl we.heap.size 26 (.slice none 0 0) 24 Tryz.underlying23 Tryz.gB rfl (by decide) hown1 rfl (.slice xq (aU names.length (aN t names k)).length xc) _ rfl rfl rfl a BH.out (by have := cG.out; have := nX.out; omega) (by have := di.size; rw [World.size_alloc] at this; omega) ?_; intro g2 bJ wb hown2 TV mG)
        | (at_builtin; refine gV wb rfl _ _ 23 rfl we.heap.size 26 (.slice none 0 0) 24 Tryz.underlying23 Tryz.gB rfl (by decide) hown2 rfl (by simp) g (if cap = a then 0 else a) ((owK t names (k - 1)).length - a) (cap - a) (by show (Value.slice _ _ _ : Value) = _; congr 1; by_cases q1 : cap = a <;> by_cases q2 : a = 0 <;> first | (simp [q1, q2]; done) | (exfalso; omega)) (fun j => f (a + j)) (fun j hj => by have h0 := vV.out; rw [if_neg (by omega : ¬ cap = a)]; have h1 := vT (cV (cV sI.out di) mG) (yC.out (a + j) (by omega)); rwa [Nat.zero_add] at h1) (fun j hj => OI.one (sH.out (a + j) (by omega))) (a + 1) ((owK t names (k - 1)).length + 1) BI.out (by have := cG.out; omega) (by have := nX.out; omega) (by have := di.size; have := mG.size; rw [World.size_alloc] at *; omega) ?_; intro g3 TW wz k9 AQ))
       all_goals (
        have sJ : Hid (Up we wz) := cV (cV (cV sI.out di) mG) AQ
        go_roundw
        case rel => exact ⟨k + 1, by omega, HK.out.2, by go_num, by unfold Hid; rw [eU.out]; exact OI.ins cG.out k9 (fun j hj => af.keep (sH.out j hj) (sJ.out.kept _)) (af.keep Jb.out (sJ.out.kept _)), ER.out.trans (sG.out.trans sJ.out)⟩
        case measure => have := HK.out.2; simp [intOf]; omega)
      case pos =>
       obtain ⟨rq, rc, hca, nH⟩ := QG (fun j hj => uO.out.cell (lW.out j hj)) (fun j hj => af.keep (I9.out j hj) (uO.out.kept _)) hlt
       have i7 : (a : Int) < ((owK t names (k - 1)).length : Int) := by omega
       have nu := aa (Iu Any Any wf _ _ _ _ nH (af.keep sj.out (oT.out.kept _)) (y7 t names (k - 1) hlt fJ.out.le) (by have := wG.out; omega))
       have aM := aa hlt
       have D1 := aa nH
       have vZ := aa hca
       cases hcm : decide (cmpL (gl (owK t names (k - 1)) a) (aU names.length (aN t names k)) < 0)
       case true =>
        rw [hcm] at nu
        have nG := aa (of_decide_eq_true hcm)
        clear hlt xw ha hQ nH hcm
        go_wp2_with fail
        refine nu.out.mono ?_
        rintro e w' ⟨rfl, hq⟩
        obtain ⟨nq, rfl⟩ := hq
        have yD := aa (HQf.out.drewN nq)
        go_wp2_with fail
        go_roundw
        case rel => exact ⟨a + 1, aM.out, by go_num, yD.out, fun j hj => by
         by_cases q : j = a
         ·subst q; exact nG.out
         ·exact yz.out j (by omega)⟩
        case measure => have := aM.out; simp [intOf]; omega
       case false =>
        rw [hcm] at nu
        have nG := aa (Int.not_lt.1 (of_decide_eq_false hcm))
        clear hlt xw ha hQ nH hcm
        go_wp2_with fail
        refine nu.out.mono ?_
        rintro e w' ⟨rfl, hq⟩
        have yD := aa hq
        have hca := hq.up.cell vZ.out
        have oa := aa (kS Any Any w' _ _ _ _ (af.keep D1.out (hq.up.kept _)) (af.keep sj.out ((oT.out.trans hq.up).kept _)) (y7 t names (k - 1) aM.out fJ.out.le) (by have := wG.out; omega))
        clear hq
        go_wp2_with fail
        cases hsm : decide (gl (owK t names (k - 1)) a = aU names.length (aN t names k))
        case true =>
         rw [hsm] at oa
         have HTH := aa (EP aM.out yz.out (Int.not_lt.2 nG.out) (of_decide_eq_true hsm))
         have eU := aa (qT HK.out.1 gJ.out)
         rw [HTH.out] at eU
         clear hsm
         refine oa.out.mono ?_
         rintro e we ⟨rfl, nq, rfl⟩
         have QJ := aa (uO.out.trans (yD.out.up.trans (Up.drewN w' nq)))
         go_wp2_with fail
         go_roundw
         case rel => exact ⟨k + 1, by omega, HK.out.2, by go_num, by unfold Hid; rw [eU.out]; exact HO.out.up QJ.out, ER.out.trans QJ.out⟩
         case measure => have := HK.out.2; simp [intOf]; omega
        case false =>
         rw [hsm] at oa
         have xd := aa (of_decide_eq_false hsm)
         clear hsm
         refine oa.out.mono ?_
         rintro e we ⟨rfl, nq, ou⟩
         have sG : Hid (Up wo we) := by rw [ou]; exact uO.out.trans (yD.out.up.trans (Up.drewN w' nq))
         have AP : Hid (Up wc we) := by rw [ou]; exact oT.out.trans (yD.out.up.trans (Up.drewN w' nq))
         clear ou hca
         have od := aa (y6 cG.out yz.out (.inr ⟨Int.not_lt.2 nG.out, xd.out⟩))
         have eU := aa (qT HK.out.1 gJ.out)
         rw [od.out] at eU
         have sH : Hid (∀ j, j < (owK t names (k - 1)).length → af Any we (f j) (gl (owK t names (k - 1)) j)) := fun j hj => af.keep (I9.out j hj) (sG.out.kept _)
         have yC : Hid (∀ j, j < (owK t names (k - 1)).length → we.cell? ⟨g, 0 + j, none⟩ = some (f j)) := fun j hj => sG.out.cell (lW.out j hj)
         have Jb := aa (af.keep sj.out (AP.out.kept _))
         have Jc := aa (ah.made we 26)
         have sI := aa (Up.alloc we (.cells #[] 26))
         have BH : Hid (([] ++ (List.range a).map f : List Value).length = a) := by unfold Hid; simp
         have BI : Hid ((([] ++ (List.range a).map f) ++ [Value.slice xq (aU names.length (aN t names k)).length xc] : List Value).length = a + 1) := by unfold Hid; simp
         have j1 : a ≤ (owK t names (k - 1)).length := cG.out
         have j2 : (a : Int) ≤ ((owK t names (k - 1)).length : Int) := by have := cG.out; omega
         have j3 : (owK t names (k - 1)).length ≤ cap := vV.out
         have j4 : (0 : Int) ≤ (a : Int) := by omega
         go_wp2_with (first
          | (at_builtin; refine gV (we.alloc (.cells #[] 26)) rfl _ _ 23 rfl we.heap.size 26 (.slice none 0 0) 24 Tryz.underlying23 Tryz.gB rfl (by decide) Jc.out rfl (by simp) g 0 a _ rfl f (fun j hj => sI.out.cell (yC.out j (by have := cG.out; omega))) (fun j hj => OI.one (sH.out j (by have := cG.out; omega))) 0 a rfl (Nat.zero_add _) (by have := cG.out; have := nX.out; omega) (by simp) ?_; intro g1 TU wa hown1 di)
          | (at_builtin; refine fW wa rfl _ _ 23 rfl we.heap.size 26 (.slice none 0 0) 24 Tryz.underlying23 Tryz.gB rfl (by decide) hown1 rfl (.slice xq (aU names.length (aN t names k)).length xc) _ rfl rfl rfl a BH.out (by have := cG.out; have := nX.out; omega) (by have := di.size; rw [World.size_alloc] at this; omega) ?_; intro g2 bJ wb hown2 TV mG)
          | (at_builtin; refine gV wb rfl _ _ 23 rfl we.heap.size 26 (.slice none 0 0) 24 Tryz.underlying23 Tryz.gB rfl (by decide) hown2 rfl (by simp) g (if cap = a then 0 else a) ((owK t names (k - 1)).length - a) (cap - a) (by show (Value.slice _ _ _ : Value) = _; congr 1; by_cases q1 : cap = a <;> by_cases q2 : a = 0 <;> first | (simp [q1, q2]; done) | (exfalso; omega)) (fun j => f (a + j)) (fun j hj => by have h0 := vV.out; rw [if_neg (by omega : ¬ cap = a)]; have h1 := vT (cV (cV sI.out di) mG) (yC.out (a + j) (by omega)); rwa [Nat.zero_add] at h1) (fun j hj => OI.one (sH.out (a + j) (by omega))) (a + 1) ((owK t names (k - 1)).length + 1) BI.out (by have := cG.out; omega) (by have := nX.out; omega) (by have := di.size; have := mG.size; rw [World.size_alloc] at *; omega) ?_; intro g3 TW wz k9 AQ))
         all_goals (
          have sJ : Hid (Up we wz) := cV (cV (cV sI.out di) mG) AQ
          go_roundw
          case rel => exact ⟨k + 1, by omega, HK.out.2, by go_num, by unfold Hid; rw [eU.out]; exact OI.ins cG.out k9 (fun j hj => af.keep (sH.out j hj) (sJ.out.kept _)) (af.keep Jb.out (sJ.out.kept _)), ER.out.trans (sG.out.trans sJ.out)⟩
          case measure => have := HK.out.2; simp [intOf]; omega)
end Go.Proofs.YtpnmblnahjjmhaaGreat
