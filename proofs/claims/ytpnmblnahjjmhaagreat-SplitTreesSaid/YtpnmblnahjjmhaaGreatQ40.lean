/- The contracts of layer 4's reference's Complement and Minus; of layer 32's reference's has. Sets that are nested or apart, each of two elements or more: fewer than there are elements. So the tree of splits is small. -/
import Derived.Test.YtpnmblnahjjmhaaGreatQ1
import Derived.Test.YtpnmblnahjjmhaaGreatQ38
import Derived.Test.YtpnmblnahjjmhaaGreatQ39
import Derived.Test.YtpnmblnahjjmhaaGreatQ16
import Derived.Test.YtpnmblnahjjmhaaGreatQ4
import Derived.Test.YtpnmblnahjjmhaaGreatQ36
namespace Go.Proofs.YtpnmblnahjjmhaaGreat
set_option maxRecDepth 100000
section
open Go.RowKit Go.Deep
def mG (a : List Int) (k : Nat) : List Int := ff (fun x => !a.contains x) k
theorem Df (a : List Int) (k : Nat) : (mG a k).length ≤ k := jE _ _
theorem Is (a : List Int) (k : Nat) : mG a (k + 1) = mG a k ++ if a.contains (k : Int) = true then [] else [(k : Int)] := by
 unfold mG
 rw [qA]
 cases a.contains (k : Int) <;> rfl
theorem Qb (N : Nat) (a : List Int) : bw (N : Int) a = mG a N := by unfold bw mG; rw [Int.toNat_natCast]
set_option maxHeartbeats 1000000 in
theorem EL (S : Nat → Prop) (w : World) (v : Value) (N : Nat) (a : List Int) (h : an S w v a) (hn : a.length ≤ 64) (hN : N ≤ 32) (ha : cZ a) (hb : ∀ x ∈ a, x < (N : Int)) :
  Calls Tryz.prog 111 #[.int .i64 (N : Int), v] w fun e w' => Up w w' ∧ ∃ x, e = .returned (.tuple #[x, .int .i64 0]) ∧ ay w.heap.size 3 w' x ((bw N a).map (Value.int .i64)) := by
 have H1 := ag (zj S w v a h (by omega))
 obtain ⟨p, cap, rfl, -, -⟩ := aC.open h
 have HA : Hid (an S w (.slice p a.length cap) a) := h
 have HH : Hid (∀ W (x : Int), Up w W → Calls Tryz.prog 110 #[.slice p a.length cap, .int .i64 x] W fun e w' => e = .returned (.bool (a.contains x)) ∧ W = w') := fun W x hW => vh S W _ a x (an.keep h (hW.kept _)) (by omega)
 have Qc : Hid (eL a = 0) := fL.2 ha
 have mU := ag (Qb N a)
 have HBB := ag hb
 rw [Qc.out] at H1
 have k1 : decide ((N : Int) < 0) = false := decide_eq_false (by omega)
 have k2 : decide ((64 : Int) < (N : Int)) = false := decide_eq_false (by omega)
 have HN := ag hN
 have dw := ag hn
 clear h ha hb hN hn
 aq Tryz.func111, Tryz.ntmps111
 aa fail
 refine H1.out.mono ?_
 rintro e w1 ⟨rfl, hq1⟩
 have eD := ag hq1.up
 have mH := ag (an.keep HA.out (eD.out.kept S))
 clear hq1 H1 k1 k2
 by_cases hm : a.length = 0
 ·have d0 : decide ((0 : Int) < (a.length : Int)) = false := decide_eq_false (by omega)
  have d1 : ¬ 0 < a.length := by omega
  clear hm
  aa fail
  have HM := ag (ay.made w1 3)
  clear mH
  aV [6, 7] (fun o i wr => ∃ k : Nat, k ≤ N ∧ i = .int .i64 k ∧ Hid (ay w1.heap.size 3 wr o ((mG a k).map (Value.int .i64))) ∧ Hid (Up w1 wr)) (fun _ i _ => N - (intOf i).toNat)
  case atStart => exact ⟨0, Nat.zero_le _, rfl, HM.out, Up.alloc _ _⟩
  case round =>
   obtain ⟨k, hk, rfl, hO, cH⟩ := bE
   obtain ⟨wo, rfl⟩ : ∃ wo : World, wo = wr := ⟨_, rfl⟩
   by_cases hlt : k < N
   ·have oU := ag (Is a k)
    have mF := ag (HH.out wo (k : Int) (eD.out.trans cH.out))
    have i2 : (k : Int) < (N : Int) := by omega
    have i3 : (k : Int) < 1000000 := by have := HN.out; omega
    have aU := ag hlt
    have hsz := cH.out.size
    have dW : Hid (((mG a k).map (Value.int .i64)).length = (mG a k).length) := List.length_map _
    have dA : Hid ((mG a k).length ≤ 1000000) := by have h1 := Df a k; have := HN.out; unfold Hid; omega
    have lS := ag cH.out
    cases gv : a.contains (k : Int)
    ·rw [gv] at mF
     have HS : Hid (mG a (k + 1) = mG a k ++ [(k : Int)]) := by unfold Hid; rw [oU.out, gv]; simp
     clear hlt hk cH gv oU
     aa fail
     refine mF.out.mono ?_
     rintro e w' ⟨rfl, rfl⟩
     aa (bR; refine gJ wo rfl _ _ 26 rfl w1.heap.size 3 (.int .i64 0) 8 Tryz.underlying26 Tryz.gH rfl (by decide) hO.out rfl (.int .i64 (k : Int)) _ rfl rfl rfl _ dW.out dA.out hsz ?_; intro g8 jD w8 eF MY dS)
     aF
     case rel => exact ⟨k + 1, aU.out, by aH, by unfold Hid; rw [HS.out, List.map_append]; exact eF, Below.trans lS.out dS⟩
     case measure => have := aU.out; simp [intOf]; omega
    ·rw [gv] at mF
     have HS : Hid (mG a (k + 1) = mG a k) := by unfold Hid; rw [oU.out, gv]; simp
     clear hlt hk cH gv oU
     aa fail
     refine mF.out.mono ?_
     rintro e w' ⟨rfl, rfl⟩
     aa fail
     aF
     case rel => exact ⟨k + 1, aU.out, by aH, by unfold Hid; rw [HS.out]; exact hO.out, lS.out⟩
     case measure => have := aU.out; simp [intOf]; omega
   ·obtain rfl : k = N := by omega
    have ic := ag (eD.out.trans cH.out)
    have hR := hO.out.nH eD.out.size
    rw [← mU.out] at hR
    have HR := ag hR
    clear hR
    have i2 : ¬ (k : Int) < (k : Int) := by omega
    clear hlt hk hO cH
    aa fail
    exact ⟨rfl, .tuple #[_, .int .i64 0], by simp [results, Tryz.results111, go_sem], ic.out, _, rfl, HR.out⟩
 ·obtain ⟨m, hm⟩ : ∃ m, a.length = m + 1 := ⟨a.length - 1, by omega⟩
  have hc : decide ((N : Int) ≤ gi a m) = false := decide_eq_false (by have := HBB.out _ (ng (show m < a.length by omega)); omega)
  have hq : (a.length : Int) - 1 = (m : Int) := by omega
  obtain ⟨b, off, rfl, hcell⟩ := bV mH.out (show m < a.length by omega)
  have j1 : (0 : Int) ≤ (m : Int) := by omega
  have j2 : (m : Int) < (a.length : Int) := by omega
  have j3 : (m : Int) < 64 := by have := dw.out; omega
  have d0 : decide ((0 : Int) < (a.length : Int)) = true := decide_eq_true (by omega)
  have d1 : 0 < a.length := by omega
  have hw : wrap64 ((a.length : Int) - 1) = (m : Int) := by rw [hq]; unfold wrap64; omega
  clear hm
  aa fail
  clear hw hq
  have HM := ag (ay.made w1 3)
  clear mH
  aV [6, 7] (fun o i wr => ∃ k : Nat, k ≤ N ∧ i = .int .i64 k ∧ Hid (ay w1.heap.size 3 wr o ((mG a k).map (Value.int .i64))) ∧ Hid (Up w1 wr)) (fun _ i _ => N - (intOf i).toNat)
  case atStart => exact ⟨0, Nat.zero_le _, rfl, HM.out, Up.alloc _ _⟩
  case round =>
   obtain ⟨k, hk, rfl, hO, cH⟩ := bE
   obtain ⟨wo, rfl⟩ : ∃ wo : World, wo = wr := ⟨_, rfl⟩
   by_cases hlt : k < N
   ·have oU := ag (Is a k)
    have mF := ag (HH.out wo (k : Int) (eD.out.trans cH.out))
    have i2 : (k : Int) < (N : Int) := by omega
    have i3 : (k : Int) < 1000000 := by have := HN.out; omega
    have aU := ag hlt
    have hsz := cH.out.size
    have dW : Hid (((mG a k).map (Value.int .i64)).length = (mG a k).length) := List.length_map _
    have dA : Hid ((mG a k).length ≤ 1000000) := by have h1 := Df a k; have := HN.out; unfold Hid; omega
    have lS := ag cH.out
    cases gv : a.contains (k : Int)
    ·rw [gv] at mF
     have HS : Hid (mG a (k + 1) = mG a k ++ [(k : Int)]) := by unfold Hid; rw [oU.out, gv]; simp
     clear hlt hk cH gv oU
     aa fail
     refine mF.out.mono ?_
     rintro e w' ⟨rfl, rfl⟩
     aa (bR; refine gJ wo rfl _ _ 26 rfl w1.heap.size 3 (.int .i64 0) 8 Tryz.underlying26 Tryz.gH rfl (by decide) hO.out rfl (.int .i64 (k : Int)) _ rfl rfl rfl _ dW.out dA.out hsz ?_; intro g8 jD w8 eF MY dS)
     aF
     case rel => exact ⟨k + 1, aU.out, by aH, by unfold Hid; rw [HS.out, List.map_append]; exact eF, Below.trans lS.out dS⟩
     case measure => have := aU.out; simp [intOf]; omega
    ·rw [gv] at mF
     have HS : Hid (mG a (k + 1) = mG a k) := by unfold Hid; rw [oU.out, gv]; simp
     clear hlt hk cH gv oU
     aa fail
     refine mF.out.mono ?_
     rintro e w' ⟨rfl, rfl⟩
     aa fail
     aF
     case rel => exact ⟨k + 1, aU.out, by aH, by unfold Hid; rw [HS.out]; exact hO.out, lS.out⟩
     case measure => have := aU.out; simp [intOf]; omega
   ·obtain rfl : k = N := by omega
    have ic := ag (eD.out.trans cH.out)
    have hR := hO.out.nH eD.out.size
    rw [← mU.out] at hR
    have HR := ag hR
    clear hR
    have i2 : ¬ (k : Int) < (k : Int) := by omega
    clear hlt hk hO cH
    aa fail
    exact ⟨rfl, .tuple #[_, .int .i64 0], by simp [results, Tryz.results111, go_sem], ic.out, _, rfl, HR.out⟩
def pX (a b : List Int) (k : Nat) : List Int := (a.take k).filter fun x => !b.contains x
theorem Qd {a b : List Int} {k : Nat} (hk : k < a.length) : pX a b (k + 1) = pX a b k ++ (if b.contains (gi a k) = true then [] else [gi a k]) := by
 unfold pX
 rw [List.take_add_one, List.filter_append]
 congr 1
 have e : a[k]? = some (gi a k) := by simp [gi, hk]
 rw [e]
 show List.filter _ [gi a k] = _
 cases h : b.contains (gi a k)
 ·rw [if_neg (by decide)]; simpa using h
 ·rw [if_pos rfl]; simpa using h
set_option maxHeartbeats 1000000 in
theorem Qe (S T : Nat → Prop) (w : World) (v u : Value) (a b : List Int) (h : an S w v a) (h2 : an T w u b) (hn : a.length ≤ 1000000) (hm : b.length ≤ 1000000) (ha : cZ a) (hb : cZ b) :
  Calls Tryz.prog 181 #[v, u] w fun e w' => Up w w' ∧ ∃ x, e = .returned (.tuple #[x, .int .i64 0]) ∧ ay w.heap.size 3 w' x ((a.filter fun x => !b.contains x).map (Value.int .i64)) := by
 have H1 := ag (De S T w v u a b h h2 hn hm ha hb)
 obtain ⟨p, cap, rfl, -, -⟩ := aC.open h
 obtain ⟨q, tS, rfl, -, -⟩ := aC.open h2
 have HA : Hid (an S w (.slice p a.length cap) a) := h
 have HH : Hid (∀ W (x : Int), Up w W → Calls Tryz.prog 110 #[.slice q b.length tS, .int .i64 x] W fun e w' => e = .returned (.bool (b.contains x)) ∧ W = w') := fun W x hW => vh T W _ b x (an.keep h2 (hW.kept _)) hm
 clear h h2 ha hb
 aq Tryz.func181, Tryz.ntmps181
 aa fail
 refine H1.out.mono ?_
 rintro e w1 ⟨rfl, hq1⟩
 have eD := ag hq1.up
 have HM := ag (ay.made w1 3)
 clear hq1 H1
 aa fail
 aV [6, 7] (fun o i wr => ∃ k : Nat, k ≤ a.length ∧ i = .int .i64 k ∧ Hid (ay w1.heap.size 3 wr o ((pX a b k).map (Value.int .i64))) ∧ Hid (Up w1 wr)) (fun _ i _ => a.length - (intOf i).toNat)
 case atStart => exact ⟨0, Nat.zero_le _, rfl, HM.out, Up.alloc _ _⟩
 case round =>
  obtain ⟨k, hk, rfl, hO, cH⟩ := bE
  obtain ⟨wo, rfl⟩ : ∃ wo : World, wo = wr := ⟨_, rfl⟩
  by_cases hlt : k < a.length
  ·obtain ⟨b1, off, rfl, hc⟩ := bV (an.keep HA.out ((eD.out.trans cH.out).kept S)) hlt
   have oU := ag (Qd (b := b) hlt)
   have mF := ag (HH.out wo (gi a k) (eD.out.trans cH.out))
   have i1 : (0 : Int) ≤ (k : Int) := by omega
   have i2 : (k : Int) < (a.length : Int) := by omega
   have i3 : (k : Int) < 1000000 := by omega
   have aU := ag hlt
   have hsz := cH.out.size
   have dW : Hid (((pX a b k).map (Value.int .i64)).length = (pX a b k).length) := List.length_map _
   have dA : Hid ((pX a b k).length ≤ 1000000) := by
    have h1 : (pX a b k).length ≤ (a.take k).length := List.length_filter_le _ _
    rw [List.length_take] at h1; unfold Hid; omega
   have lS := ag cH.out
   cases gv : b.contains (gi a k)
   ·rw [gv] at mF
    have HS : Hid (pX a b (k + 1) = pX a b k ++ [gi a k]) := by unfold Hid; rw [oU.out, gv]; simp
    clear hlt hk cH gv oU
    generalize gi a k = x at *
    aa fail
    refine mF.out.mono ?_
    rintro e w' ⟨rfl, rfl⟩
    aa (bR; refine gJ wo rfl _ _ 26 rfl w1.heap.size 3 (.int .i64 0) 8 Tryz.underlying26 Tryz.gH rfl (by decide) hO.out rfl (.int .i64 x) _ rfl rfl rfl _ dW.out dA.out hsz ?_; intro g8 jD w8 eF MY dS)
    aF
    case rel => exact ⟨k + 1, aU.out, by aH, by unfold Hid; rw [HS.out, List.map_append]; exact eF, Below.trans lS.out dS⟩
    case measure => have := aU.out; simp [intOf]; omega
   ·rw [gv] at mF
    have HS : Hid (pX a b (k + 1) = pX a b k) := by unfold Hid; rw [oU.out, gv]; simp
    clear hlt hk cH gv oU
    generalize gi a k = x at *
    aa fail
    refine mF.out.mono ?_
    rintro e w' ⟨rfl, rfl⟩
    aa fail
    aF
    case rel => exact ⟨k + 1, aU.out, by aH, by unfold Hid; rw [HS.out]; exact hO.out, lS.out⟩
    case measure => have := aU.out; simp [intOf]; omega
  ·obtain rfl : k = a.length := by omega
   have Cw := hO.out
   unfold pX at Cw
   rw [List.take_length] at Cw
   have HR := ag (Cw.nH eD.out.size)
   have ic := ag (eD.out.trans cH.out)
   clear hlt hk hO Cw cH
   aa fail
   exact ⟨rfl, .tuple #[_, .int .i64 0], by simp [results, Tryz.results181, go_sem], ic.out, _, rfl, HR.out⟩
theorem Fb {l : List (List Int)} {s : List Int} {k : Nat} (hk : k < l.length) (e : gl l k = s) : l.contains s = true := by
 rw [List.contains_iff_mem, ← e]; exact O3 hk
theorem AR {l : List (List Int)} {s : List Int} (h : ∀ j, j < l.length → gl l j ≠ s) : l.contains s = false := by
 cases e : l.contains s with
 | false => rfl
 | true =>
  obtain ⟨j, hj, e2⟩ := List.getElem_of_mem (List.contains_iff_mem.1 e)
  exact absurd (by simp [gl, hj, e2]) (h j hj)
set_option maxHeartbeats 1000000 in
theorem La (S T : Nat → Prop) (w : World) (v u : Value) (l : List (List Int)) (s : List Int) (h : aR S w v l) (h2 : an T w u s) (hn : l.length ≤ 1000000) (hr : ∀ k, (gl l k).length ≤ 1000000) (hm : s.length ≤ 1000000) :
  Calls Tryz.prog 122 #[v, u] w fun e w' => e = .returned (.bool (l.contains s)) ∧ QD w w' := by
 obtain ⟨p, cap, rfl, -, -⟩ := dF h
 have HX := ag h
 have nR := ag h2
 have HR := ag hr
 have HM := ag hm
 clear h h2 hr hm
 aq Tryz.func122, Tryz.ntmps122
 aa fail
 aV [5] (fun i wr => ∃ k : Nat, k ≤ l.length ∧ i = .int .i64 k ∧ Hid (QD w wr) ∧ Hid (∀ j, j < k → gl l j ≠ s)) (fun i _ => l.length - (intOf i).toNat)
 case atStart => exact ⟨0, Nat.zero_le _, rfl, QD.refl _, fun j hj => absurd hj (Nat.not_lt_zero _)⟩
 case round =>
  obtain ⟨k, hk, rfl, hQ, hd⟩ := bE
  obtain ⟨wo, rfl⟩ : ∃ wo : World, wo = wr := ⟨_, rfl⟩
  by_cases hlt : k < l.length
  ·obtain ⟨b, off, q, tS, rfl, hc, hx⟩ := eX (HX.out.keep (hQ.out.kept S)) hlt
   have sC := ag (lT S T wo (.slice q (gl l k).length tS) u (gl l k) s hx (an.keep nR.out (hQ.out.kept T)) (HR.out k) HM.out)
   have i1 : (0 : Int) ≤ (k : Int) := by omega
   have i2 : (k : Int) < (l.length : Int) := by omega
   have i3 : (k : Int) < 1000000 := by omega
   have aU := ag hlt
   have HD := ag hd.out
   by_cases e : gl l k = s
   ·have HY : Hid (l.contains s = true) := Fb hlt e
    rw [decide_eq_true e] at sC
    clear hlt hk hd e hx
    aa fail
    refine sC.out.mono ?_
    rintro e w' ⟨rfl, nq, rfl⟩
    aa fail
    ax
    exact ⟨aZ (by rw [HY.out]), hQ.out.drewN nq⟩
   ·have Qf : Hid (∀ j, j < k + 1 → gl l j ≠ s) := fun j hj => by
     by_cases q : j = k
     ·subst q; exact e
     ·exact HD.out j (by omega)
    rw [decide_eq_false e] at sC
    clear hlt hk hd e hx
    aa fail
    refine sC.out.mono ?_
    rintro e w' ⟨rfl, nq, rfl⟩
    aa fail
    aF
    case rel => exact ⟨k + 1, aU.out, by aH, hQ.out.drewN nq, Qf.out⟩
    case measure => have := aU.out; simp [intOf]; omega
  ·obtain rfl : k = l.length := by omega
   have HY : Hid (l.contains s = false) := AR hd.out
   clear hlt hk hd
   aa fail
   ax
   exact ⟨aZ (by rw [HY.out]), hQ.out⟩
end
section
theorem Zo {L : List Int} {y z : Int} (h1 : y ∈ L) (h2 : z ∈ L) (hne : y ≠ z) : 2 ≤ L.length := by
 match L, h1, h2 with
 | [a], h1, h2 => exact absurd ((List.mem_singleton.1 h1).trans (List.mem_singleton.1 h2).symm) hne
 | _ :: _ :: _, _, _ => simp
def LamR (a b : List Int) : Prop := ((∀ x ∈ a, x ∉ b) ∨ ∀ x ∈ a, x ∈ b) ∧ ¬ ∀ x, x ∈ a ↔ x ∈ b
theorem Lb : ∀ (F : List (List Int)) (U : List Int), U ≠ [] → U.Nodup → (∀ s ∈ F, s.Nodup ∧ 2 ≤ s.length ∧ ∀ x ∈ s, x ∈ U) → F.Pairwise LamR → F.length + 1 ≤ U.length
 | [], U, hU, _, _, _ => by
  have := List.length_pos_iff.2 hU
  show 0 + 1 ≤ U.length
  omega
 | S :: F, U, hU, hN, hF, hP => by
  obtain ⟨hSn, hS2, hSU⟩ := hF S (by simp)
  obtain ⟨x, y, r, rfl⟩ : ∃ x y r, S = x :: y :: r := by
   match S, hS2 with
   | a :: b :: r, _ => exact ⟨a, b, r, rfl⟩
  have hxy : x ≠ y := fun e => (List.nodup_cons.1 hSn).1 (by rw [e]; simp)
  have hxU := hSU x (by simp)
  have hyU := hSU y (by simp)
  rw [List.pairwise_cons] at hP
  obtain ⟨wL, lJ⟩ := hP
  have hlen := List.length_erase_of_mem hxU
  have hpos := List.length_pos_of_mem hxU
  have hin : ∀ T ∈ F, (x ∈ T ↔ y ∈ T) := fun T hT => by
   rcases (wL T hT).1 with h | h
   ·exact ⟨fun e => absurd e (h x (by simp)), fun e => absurd e (h y (by simp))⟩
   ·exact ⟨fun _ => h y (by simp), fun _ => h x (by simp)⟩
  have ih := Lb (F.map (·.erase x)) (U.erase x) (fun e => by
    have : y ∈ U.erase x := (List.Nodup.mem_erase_iff hN).2 ⟨fun e => hxy e.symm, hyU⟩
    rw [e] at this; cases this) (hN.erase x) (fun s hs => by
    obtain ⟨T, hT, rfl⟩ := List.mem_map.1 hs
    obtain ⟨UU, YE, hTU⟩ := hF T (List.mem_cons_of_mem _ hT)
    refine ⟨UU.erase x, ?_, fun z hz => ?_⟩
    ·rcases (wL T hT).1 with h | h
     ·rw [List.erase_of_not_mem (h x (by simp))]; exact YE
     ·obtain ⟨z, hz1, iR⟩ : ∃ z, z ∈ T ∧ z ∉ x :: y :: r := by
       refine Classical.byContradiction fun hno => (wL T hT).2 fun z => ⟨h z, fun hz => ?_⟩
       exact Classical.byContradiction fun iR => hno ⟨z, hz, iR⟩
      refine Zo (y := y) (z := z) ((List.Nodup.mem_erase_iff UU).2 ⟨fun e => hxy e.symm, h y (by simp)⟩) ((List.Nodup.mem_erase_iff UU).2 ⟨fun e => iR (by rw [e]; simp), hz1⟩) (fun e => iR (by rw [← e]; simp))
    ·obtain ⟨h1, h2⟩ := (List.Nodup.mem_erase_iff UU).1 hz
     exact (List.Nodup.mem_erase_iff hN).2 ⟨h1, hTU z h2⟩) (by
    rw [List.pairwise_map]
    refine lJ.imp_of_mem fun {a b} ha hb hab => ?_
    have FY := (hF a (List.mem_cons_of_mem _ ha)).1
    have xU := (hF b (List.mem_cons_of_mem _ hb)).1
    have ma : ∀ z, z ∈ a.erase x ↔ z ≠ x ∧ z ∈ a := fun z => List.Nodup.mem_erase_iff FY
    have mb : ∀ z, z ∈ b.erase x ↔ z ≠ x ∧ z ∈ b := fun z => List.Nodup.mem_erase_iff xU
    refine ⟨?_, fun hall => hab.2 fun z => ?_⟩
    ·rcases hab.1 with h | h
     ·exact .inl fun z hz iR => h z ((ma z).1 hz).2 ((mb z).1 iR).2
     ·exact .inr fun z hz => (mb z).2 ⟨((ma z).1 hz).1, h z ((ma z).1 hz).2⟩
    ·have UW : ∀ z, z ≠ x → (z ∈ a ↔ z ∈ b) := fun z hz => by
      have h := hall z
      rw [ma, mb] at h
      exact ⟨fun e => (h.1 ⟨hz, e⟩).2, fun e => (h.2 ⟨hz, e⟩).2⟩
     by_cases e : z = x
     ·rw [e, hin a ha, hin b hb]; exact UW y fun e => hxy e.symm
     ·exact UW z e)
  rw [List.length_map] at ih
  simp only [List.length_cons]
  omega
termination_by F => F.length
decreasing_by simp
theorem yH {names : List ByteArray} {l : List (List Int)} (h : fo names l) (h3 : 3 ≤ names.length) : 3 + (aM l).length + (names.length - 1) ≤ 64 := by
 have hr := lQ (n := names.length) (by omega)
 have hle := h.le
 have eZ : (bw names.length [0]).Nodup := ((vW _).filter _).imp fun h e => by omega
 have key := Lb (aM l).reverse (bw names.length [0]) (fun e => by rw [e] at hr; simp at hr; omega) eZ (fun s hs => by
  have hs := lN.1 (List.mem_reverse.1 hs)
  have ho := h.tN s hs
  exact ⟨ho.set.gn.imp fun h e => by omega, ho.len.1, fun x hx => fV.2 (ho.bd x hx)⟩) (by
  rw [List.pairwise_reverse, List.pairwise_iff_getElem]
  intro i k hi hk hik
  have ei : gl (aM l) i = (aM l)[i] := by simp [gl, hi]
  have ek : gl (aM l) k = (aM l)[k] := by simp [gl, hk]
  rw [← ei, ← ek]
  refine ⟨?_, fun hall => ?_⟩
  ·by_cases hc : ∃ x, x ∈ gl (aM l) k ∧ x ∈ gl (aM l) i
   ·obtain ⟨x, h1, h2⟩ := hc
    exact .inr (h.down hik hk h2 h1)
   ·exact .inl fun x h1 h2 => hc ⟨x, h1, h2⟩
  ·have := h.up (i := k) (k := i) hk hi (by omega) fun x hx => (hall x).2 hx
   omega)
 rw [List.length_reverse] at key
 omega
end
end Go.Proofs.YtpnmblnahjjmhaaGreat
