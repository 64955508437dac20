/- The contracts of layer 32's reference: All, OfStates. -/
import Derived.Test.YtpnmblnahjjmhaaGreatQ1
import Derived.Test.YtpnmblnahjjmhaaGreatQ42
import Derived.Test.YtpnmblnahjjmhaaGreatQ44
import Derived.Deep.RegionHeld3
namespace Go.Proofs.YtpnmblnahjjmhaaGreat
set_option maxRecDepth 100000
open Go.RowKit Go.Deep
set_option maxHeartbeats 4000000 in
theorem Wb (S : Nat → Prop) (w : World) (v : Value) (n : Int) (l : List (List Int)) (h : aR S w v l) (hn : l.length ≤ 1000000) (hr : ∀ k, (gl l k).length ≤ 1000000) :
  Calls Tryz.prog 117 #[.int .i64 n, v] w fun e w' => e = .returned (.tuple #[.int .i64 (Cr n l), .int .i64 (Cs n l), .bool (xe n l), .int .i64 (ey n l)]) ∧ Up w w' := by
 have HF : Hid (ey n l = if 64 < l.length then 4 else if n < 1 ∨ 32 < n then 2 else firstNZ (fun k => aN n (gl l k)) l.length) := rfl
 obtain ⟨p, cap, rfl, -, -⟩ := dF h
 have H : Hid (aR S w (.slice p l.length cap) l) := h
 have HR := ag hr
 have A6 : Hid (∀ z, ey n l = z → z ≠ 0 → Cr n l = 0 ∧ Cs n l = 0 ∧ xe n l = false ∧ ey n l = z) := fun z e h0 => by
  obtain ⟨a, b, c⟩ := Y5 (n := n) (l := l) (by rw [e]; exact h0)
  exact ⟨a, b, c, e⟩
 clear h hr
 by_cases h1 : 64 < l.length
 ·have HE := ag (A6.out 4 (by rw [HF.out, if_pos h1]) (by decide))
  have d1 : decide ((64 : Int) < (l.length : Int)) = true := decide_eq_true (by omega)
  clear h1
  aq Tryz.func117, Tryz.ntmps117
  aa fail
  exact ⟨rfl, .tuple #[.int .i64 0, .int .i64 0, .bool false, .int .i64 4], by simp [results, Tryz.results117, go_sem], by rw [HE.out.1, HE.out.2.1, HE.out.2.2.1, HE.out.2.2.2], Up.refl _⟩
 have d1 : decide ((64 : Int) < (l.length : Int)) = false := decide_eq_false (by omega)
 by_cases h2 : n < 1
 ·have HE := ag (A6.out 2 (by rw [HF.out, if_neg h1, if_pos (.inl h2)]) (by decide))
  have d2 : decide (n < 1) = true := decide_eq_true h2
  clear h1 h2
  aq Tryz.func117, Tryz.ntmps117
  aa fail
  exact ⟨rfl, .tuple #[.int .i64 0, .int .i64 0, .bool false, .int .i64 2], by simp [results, Tryz.results117, go_sem], by rw [HE.out.1, HE.out.2.1, HE.out.2.2.1, HE.out.2.2.2], Up.refl _⟩
 have d2 : decide (n < 1) = false := decide_eq_false h2
 by_cases h3 : 32 < n
 ·have HE := ag (A6.out 2 (by rw [HF.out, if_neg h1, if_pos (.inr h3)]) (by decide))
  have d3 : decide (32 < n) = true := decide_eq_true h3
  clear h1 h2 h3
  aq Tryz.func117, Tryz.ntmps117
  aa fail
  exact ⟨rfl, .tuple #[.int .i64 0, .int .i64 0, .bool false, .int .i64 2], by simp [results, Tryz.results117, go_sem], by rw [HE.out.1, HE.out.2.1, HE.out.2.2.1, HE.out.2.2.2], Up.refl _⟩
 have d3 : decide (32 < n) = false := decide_eq_false h3
 have oy : Hid (ey n l = firstNZ (fun k => aN n (gl l k)) l.length) := by unfold Hid; rw [HF.out, if_neg h1, if_neg (by omega)]
 have yJ : l.length ≤ 64 := by omega
 clear HF h1 h2 h3
 aq Tryz.func117, Tryz.ntmps117
 aa fail
 aV [8, 9] (fun i _ wr => ∃ k : Nat, k ≤ l.length ∧ i = .int .i64 k ∧ Hid (Up w wr) ∧ Hid (∀ j, j < k → aN n (gl l j) = 0)) (fun i _ _ => l.length - (intOf i).toNat)
 case atStart => exact ⟨0, Nat.zero_le _, rfl, Up.refl _, fun j hj => absurd hj (Nat.not_lt_zero _)⟩
 case round =>
  obtain ⟨k, hk, rfl, hU, hd⟩ := bE
  obtain ⟨wo, rfl⟩ : ∃ wo : World, wo = wr := ⟨_, rfl⟩
  by_cases hlt : k < l.length
  ·obtain ⟨b, off, q, c, rfl, hc, EK⟩ := eX (aR.keep H.out (hU.out.kept S)) hlt
   have fO := ag (Di S wo _ n (gl l k) EK (HR.out k))
   have wW : Hid (aN n (gl l k) ≠ 0 → ey n l = aN n (gl l k)) := fun e => by rw [oy.out]; exact fM (f := fun k => aN n (gl l k)) hlt hd.out e
   have xg : Hid (aN n (gl l k) = 0 → ∀ j, j < k + 1 → aN n (gl l j) = 0) := fun e j hj => if ej : j = k then by subst ej; exact e else hd.out j (by omega)
   have i1 : (0 : Int) ≤ (k : Int) := by omega
   have i2 : (k : Int) < (l.length : Int) := by omega
   have aU := ag hlt
   have ic := ag hU.out
   clear EK hk hlt hU
   generalize (gl l k).length = x at *
   by_cases e0 : aN n (gl l k) = 0
   ·have HG := ag (xg.out e0)
    rw [e0] at fO
    clear e0 wW xg
    aa fail
    refine fO.out.mono ?_
    rintro e w2 ⟨rfl, iP⟩
    have cM := ag (ic.out.trans iP.up)
    clear iP
    aa fail
    aF
    case rel => exact ⟨k + 1, aU.out, by aH, cM.out, HG.out⟩
    case measure => have := aU.out; simp [intOf]; omega
   ·have d4 : (aN n (gl l k) != 0) = true := by simpa using e0
    have HE := ag (A6.out _ (wW.out e0) e0)
    clear e0 wW xg
    generalize aN n (gl l k) = z at *
    aa fail
    refine fO.out.mono ?_
    rintro e w2 ⟨rfl, iP⟩
    have cM := ag (ic.out.trans iP.up)
    clear iP
    aa fail
    exact ⟨rfl, .tuple #[.int .i64 0, .int .i64 0, .bool false, .int .i64 z], by simp [results, Tryz.results117, go_sem], by rw [HE.out.1, HE.out.2.1, HE.out.2.2.1, HE.out.2.2.2], cM.out⟩
  ·obtain rfl : k = l.length := by omega
   have LC : ey n l = 0 := by rw [oy.out]; exact c9 hd.out
   have HE0 := ag LC
   have ic := ag hU.out
   have HO : Hid (∀ j, j < l.length → cZ (gl l j)) := fun j hj => (iF.1 (hd.out j hj)).set
   have o8 : Hid ((∀ a, a < l.length → decide (0 ≤ eV l a) = false) → Cr n l = 0 ∧ Cs n l = 0 ∧ xe n l = true ∧ ey n l = 0) := fun h => by
    obtain ⟨y1, y2, y3⟩ := K3 LC
    have h1 : fm l = -1 := eN h
    rw [y1, y2, y3]
    unfold z8 Aa xd
    rw [h1]; exact ⟨rfl, rfl, rfl, LC⟩
   have SR : Hid (∀ i k, i < l.length → k < l.length → (∀ a, a < i → decide (0 ≤ eV l a) = false) → (∀ b, b < k → (decide (i < b) && !eU (gl l i) (gl l b)) = false) → i < k → eU (gl l i) (gl l k) = false → Cr n l = i ∧ Cs n l = k ∧ xe n l = false ∧ ey n l = 0) := fun i k hi hk h1 h2 hik hc => by
    obtain ⟨y1, y2, y3⟩ := K3 LC
    have r : eV l i = k := gF hk h2 (by rw [decide_eq_true hik, hc]; rfl)
    have q : fm l = i := gF hi h1 (by rw [r]; exact decide_eq_true (by omega))
    have q2 : Cd l = k := by unfold Cd; rw [q, Int.toNat_natCast]; exact r
    rw [y1, y2, y3]
    unfold z8 Aa xd
    rw [q, q2, if_neg (by omega), if_neg (by omega)]
    exact ⟨rfl, rfl, decide_eq_false (by omega), LC⟩
   have SS : Hid (∀ i, (∀ b, b < l.length → (decide (i < b) && !eU (gl l i) (gl l b)) = false) → decide (0 ≤ eV l i) = false) := fun i hno => by
    have h1 : eV l i = -1 := eN hno
    rw [h1]; rfl
   clear hlt hk hU hd oy LC A6
   aa fail
   aV [10, 11] (fun i _ wr => ∃ k : Nat, k ≤ l.length ∧ i = .int .i64 k ∧ Hid (∀ a, a < k → decide (0 ≤ eV l a) = false) ∧ Hid (Up w wr)) (fun i _ _ => l.length - (intOf i).toNat)
   case atStart => exact ⟨0, Nat.zero_le _, rfl, fun j hj => absurd hj (Nat.not_lt_zero _), ic.out⟩
   case round =>
    obtain ⟨i, hi, rfl, hd, hU⟩ := bE
    obtain ⟨wo, rfl⟩ : ∃ wo : World, wo = wr := ⟨_, rfl⟩
    by_cases hlt : i < l.length
    ·have i1 : (0 : Int) ≤ (i : Int) := Int.natCast_nonneg _
     have i2 : (i : Int) < (l.length : Int) := Int.ofNat_lt.2 hlt
     have i3 : (i : Int) < 1000 := by omega
     aa fail
     aV [11] (fun i2 wr => ∃ k : Nat, i + 1 ≤ k ∧ k ≤ l.length ∧ i2 = .int .i64 k ∧ Hid (∀ b, b < k → (decide (i < b) && !eU (gl l i) (gl l b)) = false) ∧ Hid (Up w wr)) (fun i2 _ => l.length - (intOf i2).toNat)
     case atStart => exact ⟨i + 1, Nat.le_refl _, by omega, by aH, fun b hb => by rw [decide_eq_false (by omega)]; rfl, hU⟩
     case round =>
      obtain ⟨k, jf, hk, rfl, hd2, kC⟩ := bE
      obtain ⟨wq, rfl⟩ : ∃ wq : World, wq = wr := ⟨_, rfl⟩
      by_cases uw : k < l.length
      ·obtain ⟨b, off, q, c, rfl, hc, hr⟩ := eX H.out hlt
       obtain ⟨b2, off2, q2, c2, e2, fJ, jW⟩ := eX H.out uw
       cases e2
       have eH := ag (kC.out.cell hc)
       have mC := ag (kC.out.cell fJ)
       have k1 : (0 : Int) ≤ (k : Int) := Int.natCast_nonneg _
       have k2 : (k : Int) < (l.length : Int) := Int.ofNat_lt.2 uw
       have k3 : (k : Int) < 1000 := by omega
       have sW : Hid (∀ W, Up wq W → Calls Tryz.prog 179 #[.slice q (gl l i).length c, .slice q2 (gl l k).length c2] W fun e w' => e = .returned (.bool (eU (gl l i) (gl l k))) ∧ Up W w') := fun W hW =>
        V4 S S W _ _ _ _ (an.keep hr ((kC.out.trans hW).kept _)) (an.keep jW ((kC.out.trans hW).kept _)) (HO.out i hlt) (HO.out k uw)
       have aU : Hid (i < k) := by unfold Hid; omega
       clear hc fJ hr jW
       have bG : Hid (Up wq (wq.drewN 1)) := Up.drewN wq 1
       generalize hcb : eU (gl l i) (gl l k) = cb at *
       have tT := ag hcb
       clear hcb
       generalize (gl l i).length = x at *
       generalize (gl l k).length = y at *
       aa fail
       js (fun w' => Hid (Up wq w') ∧ w'.cell? ⟨b, off + i, none⟩ = some (.slice q x c) ∧ w'.cell? ⟨b, off + k, none⟩ = some (.slice q2 y c2)) (exact ⟨bG, bG.out.cell eH.out, bG.out.cell mC.out⟩) (first
        | (bg 179; refine (sW.out _ bG.out).mono ?_; rintro e w9 ⟨rfl, Ab⟩; have bG : Hid (Up wq w9) := bG.out.trans Ab; clear Ab))
       have dI : Hid (Up w _) := kC.out.trans bG.out
       clear bG sW eH mC
       cases cb
       ·aa fail
        obtain ⟨y1, y2, y3, y4⟩ := SR.out i k hlt uw hd.out hd2.out aU.out tT.out
        exact ⟨rfl, .tuple #[.int .i64 (i : Int), .int .i64 (k : Int), .bool false, .int .i64 0], by simp [results, Tryz.results117, go_sem], by rw [y1, y2, y3, y4], dI.out⟩
       ·aa fail
        aF
        case rel => exact ⟨k + 1, by omega, by omega, by aH, fun b' hb' => by
         by_cases e : b' = k
         ·subst e; rw [tT.out]; simp
         ·exact hd2.out b' (by omega), dI⟩
        case measure => simp [intOf]; omega
      ·obtain rfl : k = l.length := by omega
       have HR := ag (SS.out i hd2.out)
       aa fail
       aF
       case rel => exact ⟨i + 1, by omega, by aH, fun a ha => by
        by_cases e : a = i
        ·subst e; exact HR.out
        ·exact hd.out a (by omega), kC⟩
       case measure => simp [intOf]; omega
    ·obtain rfl : i = l.length := by omega
     obtain ⟨y1, y2, y3, y4⟩ := o8.out hd.out
     have HY : Hid (Cr n l = 0 ∧ Cs n l = 0 ∧ xe n l = true ∧ ey n l = 0) := ⟨y1, y2, y3, y4⟩
     clear y1 y2 y3 y4
     aa fail
     exact ⟨rfl, .tuple #[.int .i64 0, .int .i64 0, .bool true, .int .i64 0], by simp [results, Tryz.results117, go_sem], by rw [HY.out.1, HY.out.2.1, HY.out.2.2.1, HY.out.2.2.2], hU.out⟩
end Go.Proofs.YtpnmblnahjjmhaaGreat
