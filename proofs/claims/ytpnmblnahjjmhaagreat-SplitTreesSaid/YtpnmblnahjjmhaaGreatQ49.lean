/- The contract of layer 32's reference's Of. -/
import Derived.Test.YtpnmblnahjjmhaaGreatQ1
import Derived.Test.YtpnmblnahjjmhaaGreatQ43
import Derived.Test.YtpnmblnahjjmhaaGreatQ37
import Derived.Deep.RegionHeld3
namespace Go.Proofs.YtpnmblnahjjmhaaGreat
set_option maxRecDepth 100000
open Go.RowKit Go.Deep
def s9 (t : aJ) (names : List ByteArray) (k i j : Nat) : Bool := decide (gs t.ns j = gs names i) && dU t.ps k j
def qR (t : aJ) (names : List ByteArray) (k i m : Nat) : Bool := (List.range m).any (s9 t names k i)
def ownK (t : aJ) (names : List ByteArray) (k : Nat) : Nat → List Int
 | 0 => []
 | i + 1 => ownK t names k i ++ if qR t names k i t.ns.length = true then [(i : Int)] else []
theorem I3 (t : aJ) (names : List ByteArray) (k : Nat) : ∀ i, (ownK t names k i).length ≤ i
 | 0 => Nat.le_refl _
 | i + 1 => by
  have := I3 t names k i
  rw [ownK, List.length_append]
  split <;> simp <;> omega
theorem I4 (t : aJ) (names : List ByteArray) (k i m : Nat) : qR t names k i (m + 1) = (qR t names k i m || s9 t names k i m) := by
 unfold qR; rw [List.range_succ, List.any_append]; simp
theorem TG {t : aJ} {names : List ByteArray} (h : iU t names) {k i : Nat} (hi : i < names.length) {a b : Nat} (ha : a < t.ns.length) (hb : b < t.ns.length) (h1 : s9 t names k i a = true) (h2 : s9 t names k i b = true) : a = b := by
 obtain ⟨_, _, hl, _, _⟩ := aP h.te
 unfold s9 at h1 h2
 simp only [Bool.and_eq_true, decide_eq_true_eq] at h1 h2
 obtain ⟨j, hj, h0, e⟩ := sL h hi
 have e1 : gs t.ns a = gs t.ns j := by rw [h1.1, e]
 have e2 : gs t.ns b = gs t.ns j := by rw [h2.1, e]
 have ho : dz t j := ⟨h.te, hj, h0⟩
 exact (ho.inj hj (by omega) h0 e1.symm).symm.trans (ho.inj hj (by omega) h0 e2.symm)
theorem TH {t : aJ} {names : List ByteArray} (h : iU t names) {k i : Nat} (hi : i < names.length) {m : Nat} (hm : m < t.ns.length) (hq : s9 t names k i m = true) : qR t names k i m = false := by
 refine any_none fun j hj => ?_
 cases e : s9 t names k i j with
 | false => rfl
 | true => have := TG h hi (by omega) hm e hq; omega
theorem Wc {t : aJ} {names : List ByteArray} (h : iU t names) (k : Nat) {i : Nat} (hi : i < names.length) : qR t names k i t.ns.length = (List.range t.ps.length).any fun j => dU t.ps k j && decide ((gs t.ns j).size ≠ 0) && decide (fG names (gs t.ns j) = (i : Int)) := by
 obtain ⟨_, _, hl, _, _⟩ := aP h.te
 rw [Bool.eq_iff_iff]
 unfold qR
 rw [List.any_eq_true, List.any_eq_true]
 constructor
 ·rintro ⟨j, hj, hq⟩
  have hj := List.mem_range.1 hj
  unfold s9 at hq
  simp only [Bool.and_eq_true, decide_eq_true_eq] at hq
  obtain ⟨j2, hj2, h0, e⟩ := sL h hi
  refine ⟨j, List.mem_range.2 (by omega), ?_⟩
  simp only [Bool.and_eq_true, decide_eq_true_eq]
  exact ⟨⟨hq.2, by rw [hq.1, ← e]; exact h0⟩, by rw [hq.1]; exact oQ h.nd hi⟩
 ·rintro ⟨j, hj, hq⟩
  have hj := List.mem_range.1 hj
  simp only [Bool.and_eq_true, decide_eq_true_eq] at hq
  obtain ⟨b, hb, e⟩ := h.has j hj hq.1.2
  have h1 := oQ h.nd hb
  rw [e, hq.2] at h1
  have : b = i := by omega
  subst this
  refine ⟨j, List.mem_range.2 (by omega), ?_⟩
  unfold s9
  rw [Bool.and_eq_true]
  exact ⟨decide_eq_true e.symm, hq.1.1⟩
theorem TI {t : aJ} {names : List ByteArray} (h : iU t names) (k : Nat) : ownK t names k names.length = aW t names k := by
 have hX : ∀ i, i ≤ names.length → ownK t names k i = ff (fun b => (List.range t.ps.length).any fun j => dU t.ps k j && decide ((gs t.ns j).size ≠ 0) && decide (fG names (gs t.ns j) = b)) i := by
  intro i
  induction i with
  | zero => exact fun _ => rfl
  | succ i ih =>
   intro hi
   rw [qA, ownK, ih (by omega), Wc h k (by omega)]
 exact hX _ (Nat.le_refl _)
theorem QJ {t : aJ} {names : List ByteArray} {k n base : Nat} {w : World} {v : Value} (h : ay base 3 w v ((ownK t names k n).map (Value.int .i64))) : ay base 3 w v ((ownK t names k n ++ if qR t names k n 0 = true then [(n : Int)] else []).map (Value.int .i64)) := by
 rw [show qR t names k n 0 = false from rfl]; simpa using h
theorem I5 {t : aJ} {names : List ByteArray} {k n m base : Nat} {w : World} {v : Value} (hq : s9 t names k n m = false) (h : ay base 3 w v ((ownK t names k n ++ if qR t names k n m = true then [(n : Int)] else []).map (Value.int .i64))) : ay base 3 w v ((ownK t names k n ++ if qR t names k n (m + 1) = true then [(n : Int)] else []).map (Value.int .i64)) := by
 rw [I4, hq, Bool.or_false]; exact h
theorem TJ {t : aJ} {names : List ByteArray} {k n m base : Nat} {w : World} {v : Value} (hp : qR t names k n m = false) (h : ay base 3 w v ((ownK t names k n ++ if qR t names k n m = true then [(n : Int)] else []).map (Value.int .i64))) : ay base 3 w v ((ownK t names k n).map (Value.int .i64)) := by
 rw [hp] at h; simpa using h
theorem TK {t : aJ} {names : List ByteArray} {k n m base : Nat} {w : World} {v : Value} (hq : s9 t names k n m = true) (h : ay base 3 w v ((ownK t names k n).map (Value.int .i64) ++ [.int .i64 (n : Int)])) : ay base 3 w v ((ownK t names k n ++ if qR t names k n (m + 1) = true then [(n : Int)] else []).map (Value.int .i64)) := by
 rw [I4, hq, Bool.or_true, if_pos rfl, List.map_append]; exact h
theorem I6 {t : aJ} {names : List ByteArray} {k : Nat} (hk : 1 ≤ k) (h : aN names.length (bC names.length (aW t names k)) ≠ 0) : owK t names (k + 1 - 1) = owK t names (k - 1) := by
 obtain ⟨d, rfl⟩ : ∃ d, k = d + 1 := ⟨k - 1, by omega⟩
 rw [Nat.add_sub_cancel, Nat.add_sub_cancel, owK, if_neg h]
theorem rP {t : aJ} {names : List ByteArray} {k : Nat} (hk : 1 ≤ k) (h : aN names.length (bC names.length (aW t names k)) = 0) : owK t names (k + 1 - 1) = iwO (bC names.length (aW t names k)) (owK t names (k - 1)) := by
 obtain ⟨d, rfl⟩ : ∃ d, k = d + 1 := ⟨k - 1, by omega⟩
 rw [Nat.add_sub_cancel, Nat.add_sub_cancel, owK, if_pos h]
theorem EW {s : List Int} {l : List (List Int)} {a : Nat} (ha : a < l.length) (hb : ∀ j, j < a → cmpL (gl l j) s < 0) (hc : ¬ cmpL (gl l a) s < 0) (e : gl l a = s) : iwO s l = l := by
 have h := Qj (Nat.le_of_lt ha) hb (.inr hc)
 rw [tW, ← h, if_pos ⟨ha, e⟩]
theorem zn {s : List Int} {l : List (List Int)} {a : Nat} (ha : a ≤ l.length) (hb : ∀ j, j < a → cmpL (gl l j) s < 0) (hc : a = l.length ∨ (¬ cmpL (gl l a) s < 0 ∧ gl l a ≠ s)) : iwO s l = l.take a ++ s :: l.drop a := by
 have h := Qj ha hb (hc.imp id fun h => h.1)
 rw [tW, ← h, if_neg]
 rintro ⟨h1, h2⟩
 rcases hc with hc | hc
 ·omega
 ·exact hc.2 h2
theorem QK {W : World} {g : Nat} {f : Nat → Value} {rows : List (List Int)} (h1 : ∀ k, k < rows.length → W.cell? ⟨g, 0 + k, none⟩ = some (f k)) (h2 : ∀ k, k < rows.length → an Any W (f k) (gl rows k)) {k : Nat} (hk : k < rows.length) :
  ∃ q c, W.cell? ⟨g, k, none⟩ = some (.slice q (gl rows k).length c) ∧ an Any W (.slice q (gl rows k).length c) (gl rows k) := by
 have hc := h1 k hk
 have hi := h2 k hk
 obtain ⟨q, c, e, -, -⟩ := aC.open hi
 rw [e] at hc hi
 exact ⟨q, c, by simpa using hc, hi⟩
theorem Wg {w w' : World} {t : aJ} {names : List ByteArray} {c : Int} (hE : aT t names = c) (hc : c ≠ 0) (hu : Up w w') : oS w t names (.returned (.tuple #[.slice none 0 0, .int .i64 c])) w' := by
 refine ⟨hu, .slice none 0 0, by rw [hE], ?_⟩
 have h0 : aI t names = [] := by
  unfold aI
  rw [if_neg (by rw [hE]; exact hc)]
 rw [h0]
 exact ⟨fun _ => undef, ⟨none, 0, rfl, Nat.le_refl _, .inl rfl⟩, fun k hk => absurd hk (Nat.not_lt_zero _)⟩
theorem wC {t : aJ} {names : List ByteArray} {k : Nat} (h : names.length ≤ 32) : (bC names.length (aW t names k)).length ≤ 64 := by
 unfold bC
 split
 ·rw [Qb]; have := Df (aW t names k) names.length; omega
 ·have h1 : (aW t names k).length ≤ names.length := jE _ _
  omega
theorem zo (t : aJ) (names : List ByteArray) (k : Nat) {a : Nat} (ha : a < (owK t names k).length) (h : names.length ≤ 32) : (gl (owK t names k) a).length ≤ 1000000 := by
 obtain ⟨j, _, _, _, e⟩ := zk.1 (O3 ha)
 rw [e]
 have := wC (t := t) (k := j) h
 omega
theorem dM {b : Nat} {w x y : World} (h : Below b w x) (h2 : Below b x y) : Below b w y := Below.trans h h2
theorem wD {w x : World} (h : Below w.heap.size w x) {a : Addr} {v : Value} (hc : w.cell? a = some v) : x.cell? a = some v := Up.cell h hc
theorem Z7 {w w' : World} {t : aJ} {names : List ByteArray} {u : Value} (hE : aT t names = 0) (hu : Up w w') (hr : aR Any w' u (aI t names)) : oS w t names (.returned (.tuple #[u, .int .i64 0])) w' :=
 ⟨hu, u, by rw [hE], hr⟩
set_option maxHeartbeats 8000000 in
theorem Dr (S T : Nat → Prop) (w : World) (v vs : Value) (t : aJ) (names : List ByteArray) (hT : aO S w v t) (hV : aG T w vs names) (hp : t.ps.length ≤ 1000000) (hn : t.ns.length ≤ 1000000) (hz : ∀ k, (gs t.ns k).size ≤ 70000) (hnl : names.length ≤ 1000000) :
  Calls Tryz.prog 33 #[v, vs] w (oS w t names) := by
 obtain ⟨P, N, rfl, hP, hN⟩ := hT
 obtain ⟨pp, pc, rfl, -, -⟩ := aC.open hP
 obtain ⟨np, nc, rfl, -, -⟩ := aC.open hN
 obtain ⟨mp, mc, rfl, -, -⟩ := aC.open hV
 have hP : an S w (.slice pp t.ps.length pc) t.ps := hP
 have hN : aG S w (.slice np t.ns.length nc) t.ns := hN
 have hV : aG T w (.slice mp names.length mc) names := hV
 have hu := Up.alloc w (.cells #[.slice pp t.ps.length pc, .slice np t.ns.length nc] 39)
 have b0 := dg w (.slice pp t.ps.length pc) (.slice np t.ns.length nc) 39
 have b1 := dy w (.slice pp t.ps.length pc) (.slice np t.ns.length nc) 39
 have gN := ag b0
 have gU := ag b1
 have HT : Hid (aO S (w.alloc (.cells #[.slice pp t.ps.length pc, .slice np t.ns.length nc] 39)) (.agg #[.slice pp t.ps.length pc, .slice np t.ns.length nc]) t) := aO.keep ⟨_, _, rfl, hP, hN⟩ (hu.kept _)
 have HN := ag (aG.keep hN (hu.kept _))
 have HV := ag (aG.keep hV (hu.kept _))
 have HU := ag hu
 have HF := ag (S9 S T _ _ _ t names HT.out HV.out hp hn hz hnl)
 clear hu hP hN hV hn hz hp hnl
 aq Tryz.func33, Tryz.ntmps33
 aa fail
 generalize w.alloc (.cells #[.slice pp t.ps.length pc, .slice np t.ns.length nc] 39) = w1 at *
 generalize w.heap.size = tb at *
 refine HF.out.mono ?_
 rintro e w2 ⟨rfl, aL⟩
 have b0 := aL.cell gN.out
 have b1 := aL.cell gU.out
 have cM := ag aL
 clear aL HF
 by_cases h0 : aT t names = 0
 case neg =>
  have HZ := ag h0
  have e1 : (aT t names != 0) = true := by simpa using h0
  have A6 : Hid (∀ c, aT t names = c → c ≠ 0 → oS w t names (.returned (.tuple #[.slice none 0 0, .int .i64 c])) w2) := fun c h1 h2 => Wg h1 h2 (HU.out.trans cM.out)
  obtain ⟨c, hc⟩ : ∃ c, c = aT t names := ⟨_, rfl⟩
  rw [← hc] at e1
  rw [← hc]
  have HC := ag hc
  clear h0 hc
  aa fail
  exact ⟨rfl, .tuple #[.slice none 0 0, .int .i64 c], by simp [results, Tryz.results33, go_sem], A6.out c HC.out.symm (by rw [HC.out]; exact HZ.out)⟩
 case pos =>
 have gw := ag (nT.1 h0)
 have HE := ag h0
 rw [h0]
 have dG : Hid (0 < t.ps.length ∧ t.ps.length ≤ 64 ∧ t.ns.length = t.ps.length ∧ gx t.ps = true) := by
  obtain ⟨h1, h2, h3, h4, _⟩ := aP gw.out.te
  exact ⟨h1, h2, by omega, h4⟩
 clear h0
 have HOI : Hid (OI (w2.alloc (.cells #[] 26)) (.slice (some ⟨w2.heap.size, 0, none⟩) 0 0) []) := ⟨_, _, fun _ => undef, rfl, Nat.le_refl _, fun k hk => absurd hk (Nat.not_lt_zero _), fun k hk => absurd hk (Nat.not_lt_zero _)⟩
 have lS := ag (Up.alloc w2 (.cells #[] 26))
 have MV := ag (lS.out.cell b0)
 have MW := ag (lS.out.cell b1)
 aa fail
 clear b0 b1
 aV [7, 8] (fun o i wr => ∃ k : Nat, 1 ≤ k ∧ k ≤ t.ps.length ∧ i = .int .i64 k ∧ Hid (OI wr o (owK t names (k - 1))) ∧ Hid (Up (w2.alloc (.cells #[] 26)) wr)) (fun _ i _ => t.ps.length - (intOf i).toNat)
 case atStart => exact ⟨1, Nat.le_refl _, dG.out.1, rfl, HOI.out, Up.refl _⟩
 case round =>
  obtain ⟨k, iE, hk, rfl, hO, cH⟩ := bE
  obtain ⟨wo, rfl⟩ : ∃ wo : World, wo = wr := ⟨_, rfl⟩
  have ic := ag (cM.out.trans (lS.out.trans cH.out))
  have b0 := cH.out.cell MV.out
  have b1 := cH.out.cell MW.out
  by_cases hlt : k < t.ps.length
  case neg =>
   obtain rfl : k = t.ps.length := by omega
   have hR := hO.out.rows
   have hS : owK t names (t.ps.length - 1) = aI t names := by unfold aI; rw [V3 dG.out.1, if_pos HE.out]
   rw [hS] at hR
   have HR := ag hR
   have i1 : ¬ (t.ps.length : Int) < (t.ps.length : Int) := by omega
   clear hR hS hlt hk iE hO cH
   aa fail
   exact ⟨rfl, .tuple #[_, .int .i64 0], by simp [results, Tryz.results33, go_sem], Z7 HE.out (HU.out.trans ic.out) HR.out⟩
  case pos =>
  have HTo := ag (HT.out.keep (ic.out.kept _))
  have LD := ag (aG.keep HN.out (ic.out.kept _))
  have HVo := ag (aG.keep HV.out (ic.out.kept _))
  have i2 : (k : Int) < (t.ps.length : Int) := by omega
  have HK := ag (And.intro iE hlt)
  have HO := ag hO.out
  have B0o := ag b0
  have B1o := ag b1
  have EX := ag cH.out
  have i4 : (k : Int) < 64 := by have := dG.out.2.1; omega
  have HM := ag (ay.made wo 3)
  have HUM := ag (Up.alloc wo (.cells #[] 3))
  clear iE hk hlt hO cH
  aa fail
  clear b0 b1
  aV [9, 10] (fun o i wr => ∃ n : Nat, n ≤ names.length ∧ i = .int .i64 n ∧ Hid (ay wo.heap.size 3 wr o ((ownK t names k n).map (Value.int .i64))) ∧ Hid (Up wo wr)) (fun _ i _ => names.length - (intOf i).toNat)
  case atStart => exact ⟨0, Nat.zero_le _, rfl, HM.out, HUM.out⟩
  case round =>
   obtain ⟨n, hn, rfl, hO, cH⟩ := bE
   obtain ⟨wi, rfl⟩ : ∃ wi : World, wi = wr := ⟨_, rfl⟩
   by_cases hlt : n < names.length
   case pos =>
    obtain ⟨nb, no, rfl, fB⟩ := dh HVo.out hlt
    have i5 : (n : Int) < (names.length : Int) := by omega
    have i6 : (0 : Int) ≤ (n : Int) := by omega
    have i7 : (n : Int) < 64 := by have := gw.out.le; omega
    have b1 := cH.out.cell B1o.out
    have jH := ag fB
    have qu := ag hlt
    have QL := ag cH.out
    have HO0 := ag (QJ hO.out)
    clear fB hlt hn cH hO
    aa fail
    aV [9, 11] (fun o i wr => ∃ m : Nat, m ≤ t.ns.length ∧ i = .int .i64 m ∧ Hid (ay wo.heap.size 3 wr o ((ownK t names k n ++ if qR t names k n m = true then [(n : Int)] else []).map (Value.int .i64))) ∧ Hid (Up wo wr)) (fun _ i _ => t.ns.length - (intOf i).toNat)
    case atStart => exact ⟨0, Nat.zero_le _, rfl, HO0.out, QL.out⟩
    case round =>
     obtain ⟨m, hm, rfl, hO, cH⟩ := bE
     obtain ⟨wj, rfl⟩ : ∃ wj : World, wj = wr := ⟨_, rfl⟩
     have LG := ag cH.out
     have b0 := LG.out.cell B0o.out
     have b1 := LG.out.cell B1o.out
     by_cases hlt : m < t.ns.length
     case pos =>
      obtain ⟨xb, xo, rfl, zw⟩ := dh (aG.keep LD.out (LG.out.kept _)) hlt
      have i8 : (m : Int) < (t.ns.length : Int) := by omega
      have i9 : (0 : Int) ≤ (m : Int) := by omega
      have i10 : (m : Int) < 64 := by have := dG.out.2.1; have := dG.out.2.2.1; omega
      have fB := cH.out.cell jH.out
      have wR := ag (And.intro hm hlt)
      have tZ := ag hO.out
      have TM := ag cH.out
      have HQ : Hid (s9 t names k n m = (decide (gs t.ns m = gs names n) && dU t.ps k m)) := rfl
      have kM := ag (fun W (hW : Up wj W) => M1 S W _ t m k (HTo.out.keep ((LG.out.trans hW).kept _)) dG.out.2.2.2 (by have := dG.out.2.2.1; omega) HK.out.2)
      by_cases e : gs t.ns m = gs names n
      case neg =>
       have t1 : ((gs t.ns m).toList == (gs names n).toList) = false := by rw [tV]; exact decide_eq_false e
       have LH : Hid (s9 t names k n m = false) := by unfold Hid; rw [HQ.out, decide_eq_false e]; rfl
       have vi := ag (I5 LH.out tZ.out)
       clear e hlt hm hO cH tZ HQ
       generalize gs t.ns m = xs at *
       generalize gs names n = ys at *
       aa fail
       fP (fail)
       aa fail
       aF
       case rel => exact ⟨m + 1, wR.out.2, by aH, vi.out.kept fun b hb hl => rfl, TM.out.trans (Up.drewN _ _)⟩
       case measure => have := wR.out.2; simp [intOf]; omega
      case pos =>
       have t1 : ((gs t.ns m).toList == (gs names n).toList) = true := by rw [tV]; exact decide_eq_true e
       cases hh : dU t.ps k m
       case false =>
        rw [hh] at kM
        have LH : Hid (s9 t names k n m = false) := by unfold Hid; rw [HQ.out, hh, Bool.and_false]
        have vi := ag (I5 LH.out tZ.out)
        clear e hlt hm hO cH tZ HQ hh
        generalize gs t.ns m = xs at *
        generalize gs names n = ys at *
        aa fail
        have bG : Hid (Up wj (wj.drewN 1)) := Up.drewN wj 1
        have Z8 := ag zw
        have TN := ag fB
        have TO := ag b0
        have TP := ag b1
        clear zw fB b0 b1
        js (fun w' => Hid (Up wj w') ∧ w'.cell? ⟨tb, 0, none⟩ = some (.slice pp t.ps.length pc) ∧ w'.cell? ⟨tb, 1, none⟩ = some (.slice (some ⟨xb, xo, none⟩) t.ns.length nc) ∧ w'.cell? ⟨xb, xo + m, none⟩ = some (.string xs) ∧ w'.cell? ⟨nb, no + n, none⟩ = some (.string ys)) (exact ⟨bG, bG.out.cell TO.out, bG.out.cell TP.out, bG.out.cell Z8.out, bG.out.cell TN.out⟩) (first | (bg 109; refine (kM.out _ bG.out).mono ?_; rintro e w' ⟨rfl, hu⟩; have bG : Hid (Up wj w') := bG.out.trans hu; clear hu))
        have sv := ag (vi.out.kept fun b _ hl => Below.block bG.out b hl)
        have iD := ag bG.out
        clear bG
        aa fail
        aF
        case rel => exact ⟨m + 1, wR.out.2, by aH, sv.out, TM.out.trans iD.out⟩
        case measure => have := wR.out.2; simp [intOf]; omega
       case true =>
        rw [hh] at kM
        have LH : Hid (s9 t names k n m = true) := by unfold Hid; rw [HQ.out, hh, decide_eq_true e]; rfl
        have vi := ag (TJ (TH gw.out qu.out hlt LH.out) tZ.out)
        have dW : Hid (((ownK t names k n).map (Value.int .i64)).length = (ownK t names k n).length) := List.length_map _
        have dA : Hid ((ownK t names k n).length ≤ 1000000) := by have := I3 t names k n; have := qu.out; have := gw.out.le; unfold Hid; omega
        clear e hlt hm hO cH tZ HQ hh
        generalize gs t.ns m = xs at *
        generalize gs names n = ys at *
        aa fail
        have bG : Hid (Up wj (wj.drewN 1)) := Up.drewN wj 1
        have Z8 := ag zw
        have TN := ag fB
        have TO := ag b0
        have TP := ag b1
        clear zw fB b0 b1
        js (fun w' => Hid (Up wj w') ∧ w'.cell? ⟨tb, 0, none⟩ = some (.slice pp t.ps.length pc) ∧ w'.cell? ⟨tb, 1, none⟩ = some (.slice (some ⟨xb, xo, none⟩) t.ns.length nc) ∧ w'.cell? ⟨xb, xo + m, none⟩ = some (.string xs) ∧ w'.cell? ⟨nb, no + n, none⟩ = some (.string ys)) (exact ⟨bG, bG.out.cell TO.out, bG.out.cell TP.out, bG.out.cell Z8.out, bG.out.cell TN.out⟩) (first | (bg 109; refine (kM.out _ bG.out).mono ?_; rintro e w' ⟨rfl, hu⟩; have bG : Hid (Up wj w') := bG.out.trans hu; clear hu))
        have sv := ag (vi.out.kept fun b _ hl => Below.block bG.out b hl)
        have iD := ag bG.out
        have hsz := (LG.out.trans iD.out).size
        clear bG
        aa (bR; refine gJ _ rfl _ _ 26 rfl wo.heap.size 3 (.int .i64 0) 8 Tryz.underlying26 Tryz.gH rfl (by decide) sv.out rfl (.int .i64 (n : Int)) _ rfl rfl rfl _ dW.out dA.out hsz ?_; intro g8 jD w8 eF MY dS)
        aF
        case rel => exact ⟨m + 1, wR.out.2, by aH, TK LH.out eF, Below.trans (TM.out.trans iD.out) dS⟩
        case measure => have := wR.out.2; simp [intOf]; omega
     case neg =>
      obtain rfl : m = t.ns.length := by omega
      have tZ := ag hO.out
      have i8 : ¬ (t.ns.length : Int) < (t.ns.length : Int) := by omega
      have qy : Hid (ownK t names k (n + 1) = ownK t names k n ++ if qR t names k n t.ns.length = true then [(n : Int)] else []) := rfl
      rw [← qy.out] at tZ
      clear hlt hm hO cH
      aa fail
      aF
      case rel => exact ⟨n + 1, qu.out, by aH, tZ.out, LG.out⟩
      case measure => have := qu.out; simp [intOf]; omega
   case neg =>
    obtain rfl : n = names.length := by omega
    have tZ := ag hO.out
    rw [TI gw.out k] at tZ
    have QL := ag cH.out
    have i5 : ¬ (names.length : Int) < (names.length : Int) := by omega
    clear hlt hn hO cH
    have gY : Hid (bC names.length (aW t names k) = if (aW t names k).contains 0 then bw names.length (aW t names k) else (aW t names k)) := rfl
    have dW : Hid ((aW t names k).length ≤ 32) := Nat.le_trans (jE _ _) gw.out.le
    have HI := ag tZ.out.ints
    have HH := ag (vh _ wi _ _ 0 HI.out (by have := dW.out; omega))
    have S1 : Hid (cZ (aW t names k)) := ⟨pS _ _ _, fun x hx => by have h1 := iJ.1 hx; have h2 := gw.out.le; omega⟩
    have oB := ag (EL _ wi _ names.length _ HI.out (by have := dW.out; omega) gw.out.le S1.out (fun x hx => (iJ.1 hx).2.1))
    aa fail
    refine HH.out.mono ?_
    rintro e wi2 ⟨rfl, rfl⟩
    cases hc0 : (aW t names k).contains 0
    case false =>
     have wE := ag (an.sub HI.out (T := Any) fun _ _ _ => trivial)
     have hsp : bC names.length (aW t names k) = aW t names k := by rw [gY.out, hc0]; rfl
     rw [← hsp] at wE
     clear hsp
     obtain ⟨xq, xc, rfl, -, -⟩ := aC.open wE.out
     have sX : Hid (an Any wi (.slice xq (bC names.length (aW t names k)).length xc) (bC names.length (aW t names k))) := wE.out
     obtain ⟨wc, Z9⟩ : ∃ wc : World, wc = wi := ⟨_, rfl⟩
     rw [← Z9] at sX QL
     rw [← Z9]
     have I7 := ag QL.out
     clear Z9 HH oB HI tZ wE hc0 gY
     obtain ⟨g, cap, f, rfl, hcap, vf, hrw⟩ := HO.out
     have I8 := ag hrw
     have mU := ag vf
     have wF := ag hcap
     clear hrw vf hcap
     have oT : Hid ((owK t names (k - 1)).length ≤ 64) := by have := Dh t names (k - 1); have := HK.out.2; have := dG.out.2.1; unfold Hid; omega
     have wV : Hid ((bC names.length (aW t names k)).length ≤ 64) := wC gw.out.le
     have fO := ag (Di Any wc _ (names.length : Int) _ sX.out (by have := wV.out; omega))
     aa fail
     refine fO.out.mono ?_
     rintro e wd ⟨rfl, QM⟩
     have I9 := ag QM
     clear QM fO
     by_cases hs : aN names.length (bC names.length (aW t names k)) = 0
     case neg =>
      have e1 : (aN names.length (bC names.length (aW t names k)) != 0) = true := by simpa using hs
      have qN := ag (I6 HK.out.1 hs)
      clear hs
      aa fail
      aF
      case rel => exact ⟨k + 1, by omega, HK.out.2, by aH, by unfold Hid; rw [qN.out]; exact HO.out.up (I7.out.trans I9.out.up), EX.out.trans (I7.out.trans I9.out.up)⟩
      case measure => have := HK.out.2; simp [intOf]; omega
     case pos =>
     have ir := ag hs
     rw [hs]
     clear hs
     aa fail
     aV [12] (fun i wr => ∃ a : Nat, a ≤ (owK t names (k - 1)).length ∧ i = .int .i64 a ∧ Hid (QD wd wr) ∧ Hid (∀ j, j < a → cmpL (gl (owK t names (k - 1)) j) (bC names.length (aW t names k)) < 0)) (fun i _ => (owK t names (k - 1)).length - (intOf i).toNat)
     case atStart => exact ⟨0, Nat.zero_le _, rfl, QD.refl _, fun j hj => absurd hj (Nat.not_lt_zero _)⟩
     case round =>
      obtain ⟨a, ha, rfl, hQ, xN⟩ := bE
      obtain ⟨wf, rfl⟩ : ∃ wf : World, wf = wr := ⟨_, rfl⟩
      have pY := ag (I9.out.up.trans hQ.out.up)
      have vk := ag (I7.out.trans pY.out)
      have yP := ag xN.out
      have dw := ag ha
      have HQf := ag hQ.out
      have i5 : (0 : Int) ≤ (a : Int) := by omega
      have i6 : (a : Int) < 100 := by have := oT.out; omega
      by_cases hlt : a < (owK t names (k - 1)).length
      case neg =>
       have i7 : ¬ (a : Int) < ((owK t names (k - 1)).length : Int) := by omega
       have PB : Hid (a = (owK t names (k - 1)).length) := by unfold Hid; omega
       obtain ⟨we, o7⟩ : ∃ we : World, we = wf := ⟨_, rfl⟩
       rw [← o7] at pY vk
       rw [← o7]
       have tc := ag vk.out
       have A7 := ag pY.out
       clear hlt xN ha hQ o7
       have oZ := ag (zn dw.out yP.out (.inl PB.out))
       have fH := ag (rP HK.out.1 ir.out)
       rw [oZ.out] at fH
       have td : Hid (∀ j, j < (owK t names (k - 1)).length → an Any we (f j) (gl (owK t names (k - 1)) j)) := fun j hj => an.keep (I8.out j hj) (tc.out.kept _)
       have yS : Hid (∀ j, j < (owK t names (k - 1)).length → we.cell? ⟨g, 0 + j, none⟩ = some (f j)) := fun j hj => tc.out.cell (mU.out j hj)
       have Ja := ag (an.keep sX.out (A7.out.kept _))
       have Jb := ag (ay.made we 26)
       have tf := ag (Up.alloc we (.cells #[] 26))
       have BR : Hid (([] ++ (List.range a).map f : List Value).length = a) := by unfold Hid; simp
       have BS : Hid ((([] ++ (List.range a).map f) ++ [Value.slice xq (bC names.length (aW t names k)).length xc] : List Value).length = a + 1) := by unfold Hid; simp
       have j1 : a ≤ (owK t names (k - 1)).length := dw.out
       have j2 : (a : Int) ≤ ((owK t names (k - 1)).length : Int) := by have := dw.out; omega
       have j3 : (owK t names (k - 1)).length ≤ cap := wF.out
       have j4 : (0 : Int) ≤ (a : Int) := by omega
       aa (first
        | (bR; refine iG (we.alloc (.cells #[] 26)) rfl _ _ 23 rfl we.heap.size 26 (.slice none 0 0) 24 Tryz.underlying23 Tryz.gW rfl (by decide) Jb.out rfl (by simp) g 0 a _ rfl f (fun j hj => tf.out.cell (yS.out j (by have := dw.out; omega))) (fun j hj => OI.one (td.out j (by have := dw.out; omega))) 0 a rfl (Nat.zero_add _) (by have := dw.out; have := oT.out; omega) (by simp) ?_; intro g1 TQ wa eF dS)
        | (bR; refine gJ wa rfl _ _ 23 rfl we.heap.size 26 (.slice none 0 0) 24 Tryz.underlying23 Tryz.gW rfl (by decide) eF rfl (.slice xq (bC names.length (aW t names k)).length xc) _ rfl rfl rfl a BR.out (by have := dw.out; have := oT.out; omega) (by have := dS.size; rw [World.size_alloc] at this; omega) ?_; intro g2 cF wb wG TR nD)
        | (bR; refine iG wb rfl _ _ 23 rfl we.heap.size 26 (.slice none 0 0) 24 Tryz.underlying23 Tryz.gW rfl (by decide) wG rfl (by simp) g (if cap = a then 0 else a) ((owK t names (k - 1)).length - a) (cap - a) (by show (Value.slice _ _ _ : Value) = _; congr 1; by_cases q1 : cap = a <;> by_cases q2 : a = 0 <;> first | (simp [q1, q2]; done) | (exfalso; omega)) (fun j => f (a + j)) (fun j hj => by have h0 := wF.out; rw [if_neg (by omega : ¬ cap = a)]; have h1 := wD (dM (dM tf.out dS) nD) (yS.out (a + j) (by omega)); rwa [Nat.zero_add] at h1) (fun j hj => OI.one (td.out (a + j) (by omega))) (a + 1) ((owK t names (k - 1)).length + 1) BS.out (by have := dw.out; omega) (by have := oT.out; omega) (by have := dS.size; have := nD.size; rw [World.size_alloc] at *; omega) ?_; intro g3 TS wz mh A9))
       all_goals (
        have tg : Hid (Up we wz) := dM (dM (dM tf.out dS) nD) A9
        aF
        case rel => exact ⟨k + 1, by omega, HK.out.2, by aH, by unfold Hid; rw [fH.out]; exact OI.ins dw.out mh (fun j hj => an.keep (td.out j hj) (tg.out.kept _)) (an.keep Ja.out (tg.out.kept _)), EX.out.trans (tc.out.trans tg.out)⟩
        case measure => have := HK.out.2; simp [intOf]; omega)
      case pos =>
       obtain ⟨rq, rc, hca, oC⟩ := QK (fun j hj => vk.out.cell (mU.out j hj)) (fun j hj => an.keep (I8.out j hj) (vk.out.kept _)) hlt
       have i7 : (a : Int) < ((owK t names (k - 1)).length : Int) := by omega
       have og := ag (Iv Any Any wf _ _ _ _ oC (an.keep sX.out (pY.out.kept _)) (zo t names (k - 1) hlt gw.out.le) (by have := wV.out; omega))
       have aU := ag hlt
       have D6 := ag oC
       have wK := ag hca
       cases hcm : decide (cmpL (gl (owK t names (k - 1)) a) (bC names.length (aW t names k)) < 0)
       case true =>
        rw [hcm] at og
        have oB := ag (of_decide_eq_true hcm)
        clear hlt xN ha hQ oC hcm
        aa fail
        refine og.out.mono ?_
        rintro e w' ⟨rfl, hq⟩
        obtain ⟨nq, rfl⟩ := hq
        have yT := ag (HQf.out.drewN nq)
        aa fail
        aF
        case rel => exact ⟨a + 1, aU.out, by aH, yT.out, fun j hj => by
         by_cases q : j = a
         ·subst q; exact oB.out
         ·exact yP.out j (by omega)⟩
        case measure => have := aU.out; simp [intOf]; omega
       case false =>
        rw [hcm] at og
        have oB := ag (Int.not_lt.1 (of_decide_eq_false hcm))
        clear hlt xN ha hQ oC hcm
        aa fail
        refine og.out.mono ?_
        rintro e w' ⟨rfl, hq⟩
        have yT := ag hq
        have hca := hq.up.cell wK.out
        have oW := ag (lT Any Any w' _ _ _ _ (an.keep D6.out (hq.up.kept _)) (an.keep sX.out ((pY.out.trans hq.up).kept _)) (zo t names (k - 1) aU.out gw.out.le) (by have := wV.out; omega))
        clear hq
        aa fail
        cases mD : decide (gl (owK t names (k - 1)) a = bC names.length (aW t names k))
        case true =>
         rw [mD] at oW
         have HTH := ag (EW aU.out yP.out (Int.not_lt.2 oB.out) (of_decide_eq_true mD))
         have fH := ag (rP HK.out.1 ir.out)
         rw [HTH.out] at fH
         clear mD
         refine oW.out.mono ?_
         rintro e we ⟨rfl, nq, rfl⟩
         have QN := ag (vk.out.trans (yT.out.up.trans (Up.drewN w' nq)))
         aa fail
         aF
         case rel => exact ⟨k + 1, by omega, HK.out.2, by aH, by unfold Hid; rw [fH.out]; exact HO.out.up QN.out, EX.out.trans QN.out⟩
         case measure => have := HK.out.2; simp [intOf]; omega
        case false =>
         rw [mD] at oW
         have xG := ag (of_decide_eq_false mD)
         clear mD
         refine oW.out.mono ?_
         rintro e we ⟨rfl, nq, o7⟩
         have tc : Hid (Up wo we) := by rw [o7]; exact vk.out.trans (yT.out.up.trans (Up.drewN w' nq))
         have A7 : Hid (Up wc we) := by rw [o7]; exact pY.out.trans (yT.out.up.trans (Up.drewN w' nq))
         clear o7 hca
         have oZ := ag (zn dw.out yP.out (.inr ⟨Int.not_lt.2 oB.out, xG.out⟩))
         have fH := ag (rP HK.out.1 ir.out)
         rw [oZ.out] at fH
         have td : Hid (∀ j, j < (owK t names (k - 1)).length → an Any we (f j) (gl (owK t names (k - 1)) j)) := fun j hj => an.keep (I8.out j hj) (tc.out.kept _)
         have yS : Hid (∀ j, j < (owK t names (k - 1)).length → we.cell? ⟨g, 0 + j, none⟩ = some (f j)) := fun j hj => tc.out.cell (mU.out j hj)
         have Ja := ag (an.keep sX.out (A7.out.kept _))
         have Jb := ag (ay.made we 26)
         have tf := ag (Up.alloc we (.cells #[] 26))
         have BR : Hid (([] ++ (List.range a).map f : List Value).length = a) := by unfold Hid; simp
         have BS : Hid ((([] ++ (List.range a).map f) ++ [Value.slice xq (bC names.length (aW t names k)).length xc] : List Value).length = a + 1) := by unfold Hid; simp
         have j1 : a ≤ (owK t names (k - 1)).length := dw.out
         have j2 : (a : Int) ≤ ((owK t names (k - 1)).length : Int) := by have := dw.out; omega
         have j3 : (owK t names (k - 1)).length ≤ cap := wF.out
         have j4 : (0 : Int) ≤ (a : Int) := by omega
         aa (first
          | (bR; refine iG (we.alloc (.cells #[] 26)) rfl _ _ 23 rfl we.heap.size 26 (.slice none 0 0) 24 Tryz.underlying23 Tryz.gW rfl (by decide) Jb.out rfl (by simp) g 0 a _ rfl f (fun j hj => tf.out.cell (yS.out j (by have := dw.out; omega))) (fun j hj => OI.one (td.out j (by have := dw.out; omega))) 0 a rfl (Nat.zero_add _) (by have := dw.out; have := oT.out; omega) (by simp) ?_; intro g1 TQ wa eF dS)
          | (bR; refine gJ wa rfl _ _ 23 rfl we.heap.size 26 (.slice none 0 0) 24 Tryz.underlying23 Tryz.gW rfl (by decide) eF rfl (.slice xq (bC names.length (aW t names k)).length xc) _ rfl rfl rfl a BR.out (by have := dw.out; have := oT.out; omega) (by have := dS.size; rw [World.size_alloc] at this; omega) ?_; intro g2 cF wb wG TR nD)
          | (bR; refine iG wb rfl _ _ 23 rfl we.heap.size 26 (.slice none 0 0) 24 Tryz.underlying23 Tryz.gW rfl (by decide) wG rfl (by simp) g (if cap = a then 0 else a) ((owK t names (k - 1)).length - a) (cap - a) (by show (Value.slice _ _ _ : Value) = _; congr 1; by_cases q1 : cap = a <;> by_cases q2 : a = 0 <;> first | (simp [q1, q2]; done) | (exfalso; omega)) (fun j => f (a + j)) (fun j hj => by have h0 := wF.out; rw [if_neg (by omega : ¬ cap = a)]; have h1 := wD (dM (dM tf.out dS) nD) (yS.out (a + j) (by omega)); rwa [Nat.zero_add] at h1) (fun j hj => OI.one (td.out (a + j) (by omega))) (a + 1) ((owK t names (k - 1)).length + 1) BS.out (by have := dw.out; omega) (by have := oT.out; omega) (by have := dS.size; have := nD.size; rw [World.size_alloc] at *; omega) ?_; intro g3 TS wz mh A9))
         all_goals (
          have tg : Hid (Up we wz) := dM (dM (dM tf.out dS) nD) A9
          aF
          case rel => exact ⟨k + 1, by omega, HK.out.2, by aH, by unfold Hid; rw [fH.out]; exact OI.ins dw.out mh (fun j hj => an.keep (td.out j hj) (tg.out.kept _)) (an.keep Ja.out (tg.out.kept _)), EX.out.trans (tc.out.trans tg.out)⟩
          case measure => have := HK.out.2; simp [intOf]; omega)
    case true =>
     aa fail
     refine oB.out.mono ?_
     rintro e wc ⟨hu, x, rfl, ES⟩
     have I7 := ag (QL.out.trans hu)
     have wE := ag (an.sub ES.ints (T := Any) fun _ _ _ => trivial)
     have hsp : bC names.length (aW t names k) = bw names.length (aW t names k) := by rw [gY.out, hc0]; rfl
     rw [← hsp] at wE
     clear hsp
     obtain ⟨xq, xc, rfl, -, -⟩ := aC.open wE.out
     have sX : Hid (an Any wc (.slice xq (bC names.length (aW t names k)).length xc) (bC names.length (aW t names k))) := wE.out
     clear HH oB HI tZ wE hc0 gY hu ES
     obtain ⟨g, cap, f, rfl, hcap, vf, hrw⟩ := HO.out
     have I8 := ag hrw
     have mU := ag vf
     have wF := ag hcap
     clear hrw vf hcap
     have oT : Hid ((owK t names (k - 1)).length ≤ 64) := by have := Dh t names (k - 1); have := HK.out.2; have := dG.out.2.1; unfold Hid; omega
     have wV : Hid ((bC names.length (aW t names k)).length ≤ 64) := wC gw.out.le
     have fO := ag (Di Any wc _ (names.length : Int) _ sX.out (by have := wV.out; omega))
     aa fail
     refine fO.out.mono ?_
     rintro e wd ⟨rfl, QM⟩
     have I9 := ag QM
     clear QM fO
     by_cases hs : aN names.length (bC names.length (aW t names k)) = 0
     case neg =>
      have e1 : (aN names.length (bC names.length (aW t names k)) != 0) = true := by simpa using hs
      have qN := ag (I6 HK.out.1 hs)
      clear hs
      aa fail
      aF
      case rel => exact ⟨k + 1, by omega, HK.out.2, by aH, by unfold Hid; rw [qN.out]; exact HO.out.up (I7.out.trans I9.out.up), EX.out.trans (I7.out.trans I9.out.up)⟩
      case measure => have := HK.out.2; simp [intOf]; omega
     case pos =>
     have ir := ag hs
     rw [hs]
     clear hs
     aa fail
     aV [12] (fun i wr => ∃ a : Nat, a ≤ (owK t names (k - 1)).length ∧ i = .int .i64 a ∧ Hid (QD wd wr) ∧ Hid (∀ j, j < a → cmpL (gl (owK t names (k - 1)) j) (bC names.length (aW t names k)) < 0)) (fun i _ => (owK t names (k - 1)).length - (intOf i).toNat)
     case atStart => exact ⟨0, Nat.zero_le _, rfl, QD.refl _, fun j hj => absurd hj (Nat.not_lt_zero _)⟩
     case round =>
      obtain ⟨a, ha, rfl, hQ, xN⟩ := bE
      obtain ⟨wf, rfl⟩ : ∃ wf : World, wf = wr := ⟨_, rfl⟩
      have pY := ag (I9.out.up.trans hQ.out.up)
      have vk := ag (I7.out.trans pY.out)
      have yP := ag xN.out
      have dw := ag ha
      have HQf := ag hQ.out
      have i5 : (0 : Int) ≤ (a : Int) := by omega
      have i6 : (a : Int) < 100 := by have := oT.out; omega
      by_cases hlt : a < (owK t names (k - 1)).length
      case neg =>
       have i7 : ¬ (a : Int) < ((owK t names (k - 1)).length : Int) := by omega
       have PB : Hid (a = (owK t names (k - 1)).length) := by unfold Hid; omega
       obtain ⟨we, o7⟩ : ∃ we : World, we = wf := ⟨_, rfl⟩
       rw [← o7] at pY vk
       rw [← o7]
       have tc := ag vk.out
       have A7 := ag pY.out
       clear hlt xN ha hQ o7
       have oZ := ag (zn dw.out yP.out (.inl PB.out))
       have fH := ag (rP HK.out.1 ir.out)
       rw [oZ.out] at fH
       have td : Hid (∀ j, j < (owK t names (k - 1)).length → an Any we (f j) (gl (owK t names (k - 1)) j)) := fun j hj => an.keep (I8.out j hj) (tc.out.kept _)
       have yS : Hid (∀ j, j < (owK t names (k - 1)).length → we.cell? ⟨g, 0 + j, none⟩ = some (f j)) := fun j hj => tc.out.cell (mU.out j hj)
       have Ja := ag (an.keep sX.out (A7.out.kept _))
       have Jb := ag (ay.made we 26)
       have tf := ag (Up.alloc we (.cells #[] 26))
       have BR : Hid (([] ++ (List.range a).map f : List Value).length = a) := by unfold Hid; simp
       have BS : Hid ((([] ++ (List.range a).map f) ++ [Value.slice xq (bC names.length (aW t names k)).length xc] : List Value).length = a + 1) := by unfold Hid; simp
       have j1 : a ≤ (owK t names (k - 1)).length := dw.out
       have j2 : (a : Int) ≤ ((owK t names (k - 1)).length : Int) := by have := dw.out; omega
       have j3 : (owK t names (k - 1)).length ≤ cap := wF.out
       have j4 : (0 : Int) ≤ (a : Int) := by omega
       aa (first
        | (bR; refine iG (we.alloc (.cells #[] 26)) rfl _ _ 23 rfl we.heap.size 26 (.slice none 0 0) 24 Tryz.underlying23 Tryz.gW rfl (by decide) Jb.out rfl (by simp) g 0 a _ rfl f (fun j hj => tf.out.cell (yS.out j (by have := dw.out; omega))) (fun j hj => OI.one (td.out j (by have := dw.out; omega))) 0 a rfl (Nat.zero_add _) (by have := dw.out; have := oT.out; omega) (by simp) ?_; intro g1 TQ wa eF dS)
        | (bR; refine gJ wa rfl _ _ 23 rfl we.heap.size 26 (.slice none 0 0) 24 Tryz.underlying23 Tryz.gW rfl (by decide) eF rfl (.slice xq (bC names.length (aW t names k)).length xc) _ rfl rfl rfl a BR.out (by have := dw.out; have := oT.out; omega) (by have := dS.size; rw [World.size_alloc] at this; omega) ?_; intro g2 cF wb wG TR nD)
        | (bR; refine iG wb rfl _ _ 23 rfl we.heap.size 26 (.slice none 0 0) 24 Tryz.underlying23 Tryz.gW rfl (by decide) wG rfl (by simp) g (if cap = a then 0 else a) ((owK t names (k - 1)).length - a) (cap - a) (by show (Value.slice _ _ _ : Value) = _; congr 1; by_cases q1 : cap = a <;> by_cases q2 : a = 0 <;> first | (simp [q1, q2]; done) | (exfalso; omega)) (fun j => f (a + j)) (fun j hj => by have h0 := wF.out; rw [if_neg (by omega : ¬ cap = a)]; have h1 := wD (dM (dM tf.out dS) nD) (yS.out (a + j) (by omega)); rwa [Nat.zero_add] at h1) (fun j hj => OI.one (td.out (a + j) (by omega))) (a + 1) ((owK t names (k - 1)).length + 1) BS.out (by have := dw.out; omega) (by have := oT.out; omega) (by have := dS.size; have := nD.size; rw [World.size_alloc] at *; omega) ?_; intro g3 TS wz mh A9))
       all_goals (
        have tg : Hid (Up we wz) := dM (dM (dM tf.out dS) nD) A9
        aF
        case rel => exact ⟨k + 1, by omega, HK.out.2, by aH, by unfold Hid; rw [fH.out]; exact OI.ins dw.out mh (fun j hj => an.keep (td.out j hj) (tg.out.kept _)) (an.keep Ja.out (tg.out.kept _)), EX.out.trans (tc.out.trans tg.out)⟩
        case measure => have := HK.out.2; simp [intOf]; omega)
      case pos =>
       obtain ⟨rq, rc, hca, oC⟩ := QK (fun j hj => vk.out.cell (mU.out j hj)) (fun j hj => an.keep (I8.out j hj) (vk.out.kept _)) hlt
       have i7 : (a : Int) < ((owK t names (k - 1)).length : Int) := by omega
       have og := ag (Iv Any Any wf _ _ _ _ oC (an.keep sX.out (pY.out.kept _)) (zo t names (k - 1) hlt gw.out.le) (by have := wV.out; omega))
       have aU := ag hlt
       have D6 := ag oC
       have wK := ag hca
       cases hcm : decide (cmpL (gl (owK t names (k - 1)) a) (bC names.length (aW t names k)) < 0)
       case true =>
        rw [hcm] at og
        have oB := ag (of_decide_eq_true hcm)
        clear hlt xN ha hQ oC hcm
        aa fail
        refine og.out.mono ?_
        rintro e w' ⟨rfl, hq⟩
        obtain ⟨nq, rfl⟩ := hq
        have yT := ag (HQf.out.drewN nq)
        aa fail
        aF
        case rel => exact ⟨a + 1, aU.out, by aH, yT.out, fun j hj => by
         by_cases q : j = a
         ·subst q; exact oB.out
         ·exact yP.out j (by omega)⟩
        case measure => have := aU.out; simp [intOf]; omega
       case false =>
        rw [hcm] at og
        have oB := ag (Int.not_lt.1 (of_decide_eq_false hcm))
        clear hlt xN ha hQ oC hcm
        aa fail
        refine og.out.mono ?_
        rintro e w' ⟨rfl, hq⟩
        have yT := ag hq
        have hca := hq.up.cell wK.out
        have oW := ag (lT Any Any w' _ _ _ _ (an.keep D6.out (hq.up.kept _)) (an.keep sX.out ((pY.out.trans hq.up).kept _)) (zo t names (k - 1) aU.out gw.out.le) (by have := wV.out; omega))
        clear hq
        aa fail
        cases mD : decide (gl (owK t names (k - 1)) a = bC names.length (aW t names k))
        case true =>
         rw [mD] at oW
         have HTH := ag (EW aU.out yP.out (Int.not_lt.2 oB.out) (of_decide_eq_true mD))
         have fH := ag (rP HK.out.1 ir.out)
         rw [HTH.out] at fH
         clear mD
         refine oW.out.mono ?_
         rintro e we ⟨rfl, nq, rfl⟩
         have QN := ag (vk.out.trans (yT.out.up.trans (Up.drewN w' nq)))
         aa fail
         aF
         case rel => exact ⟨k + 1, by omega, HK.out.2, by aH, by unfold Hid; rw [fH.out]; exact HO.out.up QN.out, EX.out.trans QN.out⟩
         case measure => have := HK.out.2; simp [intOf]; omega
        case false =>
         rw [mD] at oW
         have xG := ag (of_decide_eq_false mD)
         clear mD
         refine oW.out.mono ?_
         rintro e we ⟨rfl, nq, o7⟩
         have tc : Hid (Up wo we) := by rw [o7]; exact vk.out.trans (yT.out.up.trans (Up.drewN w' nq))
         have A7 : Hid (Up wc we) := by rw [o7]; exact pY.out.trans (yT.out.up.trans (Up.drewN w' nq))
         clear o7 hca
         have oZ := ag (zn dw.out yP.out (.inr ⟨Int.not_lt.2 oB.out, xG.out⟩))
         have fH := ag (rP HK.out.1 ir.out)
         rw [oZ.out] at fH
         have td : Hid (∀ j, j < (owK t names (k - 1)).length → an Any we (f j) (gl (owK t names (k - 1)) j)) := fun j hj => an.keep (I8.out j hj) (tc.out.kept _)
         have yS : Hid (∀ j, j < (owK t names (k - 1)).length → we.cell? ⟨g, 0 + j, none⟩ = some (f j)) := fun j hj => tc.out.cell (mU.out j hj)
         have Ja := ag (an.keep sX.out (A7.out.kept _))
         have Jb := ag (ay.made we 26)
         have tf := ag (Up.alloc we (.cells #[] 26))
         have BR : Hid (([] ++ (List.range a).map f : List Value).length = a) := by unfold Hid; simp
         have BS : Hid ((([] ++ (List.range a).map f) ++ [Value.slice xq (bC names.length (aW t names k)).length xc] : List Value).length = a + 1) := by unfold Hid; simp
         have j1 : a ≤ (owK t names (k - 1)).length := dw.out
         have j2 : (a : Int) ≤ ((owK t names (k - 1)).length : Int) := by have := dw.out; omega
         have j3 : (owK t names (k - 1)).length ≤ cap := wF.out
         have j4 : (0 : Int) ≤ (a : Int) := by omega
         aa (first
          | (bR; refine iG (we.alloc (.cells #[] 26)) rfl _ _ 23 rfl we.heap.size 26 (.slice none 0 0) 24 Tryz.underlying23 Tryz.gW rfl (by decide) Jb.out rfl (by simp) g 0 a _ rfl f (fun j hj => tf.out.cell (yS.out j (by have := dw.out; omega))) (fun j hj => OI.one (td.out j (by have := dw.out; omega))) 0 a rfl (Nat.zero_add _) (by have := dw.out; have := oT.out; omega) (by simp) ?_; intro g1 TQ wa eF dS)
          | (bR; refine gJ wa rfl _ _ 23 rfl we.heap.size 26 (.slice none 0 0) 24 Tryz.underlying23 Tryz.gW rfl (by decide) eF rfl (.slice xq (bC names.length (aW t names k)).length xc) _ rfl rfl rfl a BR.out (by have := dw.out; have := oT.out; omega) (by have := dS.size; rw [World.size_alloc] at this; omega) ?_; intro g2 cF wb wG TR nD)
          | (bR; refine iG wb rfl _ _ 23 rfl we.heap.size 26 (.slice none 0 0) 24 Tryz.underlying23 Tryz.gW rfl (by decide) wG rfl (by simp) g (if cap = a then 0 else a) ((owK t names (k - 1)).length - a) (cap - a) (by show (Value.slice _ _ _ : Value) = _; congr 1; by_cases q1 : cap = a <;> by_cases q2 : a = 0 <;> first | (simp [q1, q2]; done) | (exfalso; omega)) (fun j => f (a + j)) (fun j hj => by have h0 := wF.out; rw [if_neg (by omega : ¬ cap = a)]; have h1 := wD (dM (dM tf.out dS) nD) (yS.out (a + j) (by omega)); rwa [Nat.zero_add] at h1) (fun j hj => OI.one (td.out (a + j) (by omega))) (a + 1) ((owK t names (k - 1)).length + 1) BS.out (by have := dw.out; omega) (by have := oT.out; omega) (by have := dS.size; have := nD.size; rw [World.size_alloc] at *; omega) ?_; intro g3 TS wz mh A9))
         all_goals (
          have tg : Hid (Up we wz) := dM (dM (dM tf.out dS) nD) A9
          aF
          case rel => exact ⟨k + 1, by omega, HK.out.2, by aH, by unfold Hid; rw [fH.out]; exact OI.ins dw.out mh (fun j hj => an.keep (td.out j hj) (tg.out.kept _)) (an.keep Ja.out (tg.out.kept _)), EX.out.trans (tc.out.trans tg.out)⟩
          case measure => have := HK.out.2; simp [intOf]; omega)
end Go.Proofs.YtpnmblnahjjmhaaGreat
