/- The contracts of layer 32's reference: All, OfStates. -/
import Derived.Test.YtpnmblnahjjmhaaGreatQ1
import Derived.Test.YtpnmblnahjjmhaaGreatQ43
import Derived.Test.YtpnmblnahjjmhaaGreatQ45
import Derived.Deep.RegionHeld3
set_option maxRecDepth 100000
namespace Go.Proofs.YtpnmblnahjjmhaaGreat
open Go.RowKit Go.Deep
set_option maxHeartbeats 4000000 in
theorem Wc (S : Nat → Prop) (w : World) (v : Value) (n : Int) (l : List (List Int)) (h : aJ S w v l) (hn : l.length ≤ 1000000) (hr : ∀ k, (gl l k).length ≤ 1000000) :
  Calls Tryz.prog 117 #[.int .i64 n, v] w fun e w' => e = .returned (.tuple #[.int .i64 (Cg n l), .int .i64 (Ch n l), .bool (wM n l), .int .i64 (dF n l)]) ∧ Up w w' := by
 have HF : Hid (dF n l = if 64 < l.length then 4 else if n < 1 ∨ 32 < n then 2 else firstNZ (fun k => aF n (gl l k)) l.length) := rfl
 obtain ⟨p, cap, rfl, -, -⟩ := cN h
 have H : Hid (aJ S w (.slice p l.length cap) l) := h
 have HR := aa hr
 have AO : Hid (∀ z, dF n l = z → z ≠ 0 → Cg n l = 0 ∧ Ch n l = 0 ∧ wM n l = false ∧ dF n l = z) := fun z e h0 => by
  obtain ⟨a, b, c⟩ := Y8 (n := n) (l := l) (by rw [e]; exact h0)
  exact ⟨a, b, c, e⟩
 clear h hr
 by_cases h1 : 64 < l.length
 ·have HE := aa (AO.out 4 (by rw [HF.out, if_pos h1]) (by decide))
  have d1 : decide ((64 : Int) < (l.length : Int)) = true := decide_eq_true (by omega)
  clear h1
  go_enter Tryz.func117, Tryz.ntmps117
  go_wp2_with fail
  exact ⟨rfl, .tuple #[.int .i64 0, .int .i64 0, .bool false, .int .i64 4], by simp [results, Tryz.results117, go_sem], by rw [HE.out.1, HE.out.2.1, HE.out.2.2.1, HE.out.2.2.2], Up.refl _⟩
 have d1 : decide ((64 : Int) < (l.length : Int)) = false := decide_eq_false (by omega)
 by_cases h2 : n < 1
 ·have HE := aa (AO.out 2 (by rw [HF.out, if_neg h1, if_pos (.inl h2)]) (by decide))
  have d2 : decide (n < 1) = true := decide_eq_true h2
  clear h1 h2
  go_enter Tryz.func117, Tryz.ntmps117
  go_wp2_with fail
  exact ⟨rfl, .tuple #[.int .i64 0, .int .i64 0, .bool false, .int .i64 2], by simp [results, Tryz.results117, go_sem], by rw [HE.out.1, HE.out.2.1, HE.out.2.2.1, HE.out.2.2.2], Up.refl _⟩
 have d2 : decide (n < 1) = false := decide_eq_false h2
 by_cases h3 : 32 < n
 ·have HE := aa (AO.out 2 (by rw [HF.out, if_neg h1, if_pos (.inr h3)]) (by decide))
  have d3 : decide (32 < n) = true := decide_eq_true h3
  clear h1 h2 h3
  go_enter Tryz.func117, Tryz.ntmps117
  go_wp2_with fail
  exact ⟨rfl, .tuple #[.int .i64 0, .int .i64 0, .bool false, .int .i64 2], by simp [results, Tryz.results117, go_sem], by rw [HE.out.1, HE.out.2.1, HE.out.2.2.1, HE.out.2.2.2], Up.refl _⟩
 have d3 : decide (32 < n) = false := decide_eq_false h3
 have nC : Hid (dF n l = firstNZ (fun k => aF n (gl l k)) l.length) := by unfold Hid; rw [HF.out, if_neg h1, if_neg (by omega)]
 have yq : l.length ≤ 64 := by omega
 clear HF h1 h2 h3
 go_enter Tryz.func117, Tryz.ntmps117
 go_wp2_with fail
 go_loopw [8, 9] (fun i _ wr => ∃ k : Nat, k ≤ l.length ∧ i = .int .i64 k ∧ Hid (Up w wr) ∧ Hid (∀ j, j < k → aF n (gl l j) = 0)) (fun i _ _ => l.length - (intOf i).toNat)
 case atStart => exact ⟨0, Nat.zero_le _, rfl, Up.refl _, fun j hj => absurd hj (Nat.not_lt_zero _)⟩
 case round =>
  obtain ⟨k, hk, rfl, hU, hd⟩ := hrel
  obtain ⟨wo, rfl⟩ : ∃ wo : World, wo = wr := ⟨_, rfl⟩
  by_cases hlt : k < l.length
  ·obtain ⟨b, off, q, c, rfl, hc, EE⟩ := dX (aJ.keep H.out (hU.out.kept S)) hlt
   have e9 := aa (C8 S wo _ n (gl l k) EE (HR.out k))
   have wH : Hid (aF n (gl l k) ≠ 0 → dF n l = aF n (gl l k)) := fun e => by rw [nC.out]; exact eY (f := fun k => aF n (gl l k)) hlt hd.out e
   have wN : Hid (aF n (gl l k) = 0 → ∀ j, j < k + 1 → aF n (gl l j) = 0) := fun e j hj => if ej : j = k then by subst ej; exact e else hd.out j (by omega)
   have i1 : (0 : Int) ≤ (k : Int) := by omega
   have i2 : (k : Int) < (l.length : Int) := by omega
   have aM := aa hlt
   have gF := aa hU.out
   clear EE hk hlt hU
   generalize (gl l k).length = x at *
   by_cases e0 : aF n (gl l k) = 0
   ·have HG := aa (wN.out e0)
    rw [e0] at e9
    clear e0 wH wN
    go_wp2_with fail
    refine e9.out.mono ?_
    rintro e w2 ⟨rfl, ir⟩
    have bU := aa (gF.out.trans ir.up)
    clear ir
    go_wp2_with fail
    go_roundw
    case rel => exact ⟨k + 1, aM.out, by go_num, bU.out, HG.out⟩
    case measure => have := aM.out; simp [intOf]; omega
   ·have d4 : (aF n (gl l k) != 0) = true := by simpa using e0
    have HE := aa (AO.out _ (wH.out e0) e0)
    clear e0 wH wN
    generalize aF n (gl l k) = z at *
    go_wp2_with fail
    refine e9.out.mono ?_
    rintro e w2 ⟨rfl, ir⟩
    have bU := aa (gF.out.trans ir.up)
    clear ir
    go_wp2_with fail
    exact ⟨rfl, .tuple #[.int .i64 0, .int .i64 0, .bool false, .int .i64 z], by simp [results, Tryz.results117, go_sem], by rw [HE.out.1, HE.out.2.1, HE.out.2.2.1, HE.out.2.2.2], bU.out⟩
  ·obtain rfl : k = l.length := by omega
   have Lz : dF n l = 0 := by rw [nC.out]; exact cA hd.out
   have HE0 := aa Lz
   have gF := aa hU.out
   have HO : Hid (∀ j, j < l.length → cz (gl l j)) := fun j hj => (gU.1 (hd.out j hj)).set
   have ow : Hid ((∀ a, a < l.length → decide (0 ≤ dV l a) = false) → Cg n l = 0 ∧ Ch n l = 0 ∧ wM n l = true ∧ dF n l = 0) := fun h => by
    obtain ⟨y1, y2, y3⟩ := K0 Lz
    have h1 : eC l = -1 := dP h
    rw [y1, y2, y3]
    unfold zL zM wL
    rw [h1]; exact ⟨rfl, rfl, rfl, Lz⟩
   have SU : Hid (∀ i k, i < l.length → k < l.length → (∀ a, a < i → decide (0 ≤ dV l a) = false) → (∀ b, b < k → (decide (i < b) && !dU (gl l i) (gl l b)) = false) → i < k → dU (gl l i) (gl l k) = false → Cg n l = i ∧ Ch n l = k ∧ wM n l = false ∧ dF n l = 0) := fun i k hi hk h1 h2 hik hc => by
    obtain ⟨y1, y2, y3⟩ := K0 Lz
    have r : dV l i = k := fS hk h2 (by rw [decide_eq_true hik, hc]; rfl)
    have q : eC l = i := fS hi h1 (by rw [r]; exact decide_eq_true (by omega))
    have q2 : B3 l = k := by unfold B3; rw [q, Int.toNat_natCast]; exact r
    rw [y1, y2, y3]
    unfold zL zM wL
    rw [q, q2, if_neg (by omega), if_neg (by omega)]
    exact ⟨rfl, rfl, decide_eq_false (by omega), Lz⟩
   have SV : Hid (∀ i, (∀ b, b < l.length → (decide (i < b) && !dU (gl l i) (gl l b)) = false) → decide (0 ≤ dV l i) = false) := fun i hno => by
    have h1 : dV l i = -1 := dP hno
    rw [h1]; rfl
   clear hlt hk hU hd nC Lz AO
   go_wp2_with fail
   go_loopw [10, 11] (fun i _ wr => ∃ k : Nat, k ≤ l.length ∧ i = .int .i64 k ∧ Hid (∀ a, a < k → decide (0 ≤ dV l a) = false) ∧ Hid (Up w wr)) (fun i _ _ => l.length - (intOf i).toNat)
   case atStart => exact ⟨0, Nat.zero_le _, rfl, fun j hj => absurd hj (Nat.not_lt_zero _), gF.out⟩
   case round =>
    obtain ⟨i, hi, rfl, hd, hU⟩ := hrel
    obtain ⟨wo, rfl⟩ : ∃ wo : World, wo = wr := ⟨_, rfl⟩
    by_cases hlt : i < l.length
    ·have i1 : (0 : Int) ≤ (i : Int) := Int.natCast_nonneg _
     have i2 : (i : Int) < (l.length : Int) := Int.ofNat_lt.2 hlt
     have i3 : (i : Int) < 1000 := by omega
     go_wp2_with fail
     go_loopw [11] (fun i2 wr => ∃ k : Nat, i + 1 ≤ k ∧ k ≤ l.length ∧ i2 = .int .i64 k ∧ Hid (∀ b, b < k → (decide (i < b) && !dU (gl l i) (gl l b)) = false) ∧ Hid (Up w wr)) (fun i2 _ => l.length - (intOf i2).toNat)
     case atStart => exact ⟨i + 1, Nat.le_refl _, by omega, by go_num, fun b hb => by rw [decide_eq_false (by omega)]; rfl, hU⟩
     case round =>
      obtain ⟨k, iI, hk, rfl, hd2, jK⟩ := hrel
      obtain ⟨wq, rfl⟩ : ∃ wq : World, wq = wr := ⟨_, rfl⟩
      by_cases tS : k < l.length
      ·obtain ⟨b, off, q, c, rfl, hc, hr⟩ := dX H.out hlt
       obtain ⟨b2, off2, q2, c2, e2, hc2, hr2⟩ := dX H.out tS
       cases e2
       have dM := aa (jK.out.cell hc)
       have lC := aa (jK.out.cell hc2)
       have k1 : (0 : Int) ≤ (k : Int) := Int.natCast_nonneg _
       have k2 : (k : Int) < (l.length : Int) := Int.ofNat_lt.2 tS
       have k3 : (k : Int) < 1000 := by omega
       have si : Hid (∀ W, Up wq W → Calls Tryz.prog 179 #[.slice q (gl l i).length c, .slice q2 (gl l k).length c2] W fun e w' => e = .returned (.bool (dU (gl l i) (gl l k))) ∧ Up W w') := fun W hW =>
        V5 S S W _ _ _ _ (af.keep hr ((jK.out.trans hW).kept _)) (af.keep hr2 ((jK.out.trans hW).kept _)) (HO.out i hlt) (HO.out k tS)
       have aM : Hid (i < k) := by unfold Hid; omega
       clear hc hc2 hr hr2
       have aW : Hid (Up wq (wq.drewN 1)) := Up.drewN wq 1
       generalize hcb : dU (gl l i) (gl l k) = cb at *
       have tv := aa hcb
       clear hcb
       generalize (gl l i).length = x at *
       generalize (gl l k).length = y at *
       go_wp2_with fail
       go_region_held3 (fun w' => Hid (Up wq w') ∧ w'.cell? ⟨b, off + i, none⟩ = some (.slice q x c) ∧ w'.cell? ⟨b, off + k, none⟩ = some (.slice q2 y c2)) (exact ⟨aW, aW.out.cell dM.out, aW.out.cell lC.out⟩) (first
        | (go_at_call 179; refine (si.out _ aW.out).mono ?_; rintro e w9 ⟨rfl, zN⟩; have aW : Hid (Up wq w9) := aW.out.trans zN; clear zN))
       have cR : Hid (Up w _) := jK.out.trans aW.out
       clear aW si dM lC
       cases cb
       ·go_wp2_with fail
        obtain ⟨y1, y2, y3, y4⟩ := SU.out i k hlt tS hd.out hd2.out aM.out tv.out
        exact ⟨rfl, .tuple #[.int .i64 (i : Int), .int .i64 (k : Int), .bool false, .int .i64 0], by simp [results, Tryz.results117, go_sem], by rw [y1, y2, y3, y4], cR.out⟩
       ·go_wp2_with fail
        go_roundw
        case rel => exact ⟨k + 1, by omega, by omega, by go_num, fun b' hb' => by
         by_cases e : b' = k
         ·subst e; rw [tv.out]; simp
         ·exact hd2.out b' (by omega), cR⟩
        case measure => simp [intOf]; omega
      ·obtain rfl : k = l.length := by omega
       have HR := aa (SV.out i hd2.out)
       go_wp2_with fail
       go_roundw
       case rel => exact ⟨i + 1, by omega, by go_num, fun a ha => by
        by_cases e : a = i
        ·subst e; exact HR.out
        ·exact hd.out a (by omega), jK⟩
       case measure => simp [intOf]; omega
    ·obtain rfl : i = l.length := by omega
     obtain ⟨y1, y2, y3, y4⟩ := ow.out hd.out
     have HY : Hid (Cg n l = 0 ∧ Ch n l = 0 ∧ wM n l = true ∧ dF n l = 0) := ⟨y1, y2, y3, y4⟩
     clear y1 y2 y3 y4
     go_wp2_with fail
     exact ⟨rfl, .tuple #[.int .i64 0, .int .i64 0, .bool true, .int .i64 0], by simp [results, Tryz.results117, go_sem], by rw [HY.out.1, HY.out.2.1, HY.out.2.2.1, HY.out.2.2.2], hU.out⟩
end Go.Proofs.YtpnmblnahjjmhaaGreat
