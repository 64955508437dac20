/- The contracts of layer 32's reference's place, below, less and fits. The reference's list of splits, plain: putting a list into an ordered list without doubles. -/
import Derived.Test.YtpnmblnahjjmhaaGreatQ39
import Derived.Test.YtpnmblnahjjmhaaGreatQ28
import Derived.Test.YtpnmblnahjjmhaaGreatQ1
import Derived.Test.YtpnmblnahjjmhaaGreatQ9
import Derived.BigQuiet
import Derived.Test.YtpnmblnahjjmhaaGreatQ36
namespace Go.Proofs.YtpnmblnahjjmhaaGreat
set_option maxRecDepth 100000
section
open Go.RowKit Go.Deep
theorem tV {a b : ByteArray} : (a.toList == b.toList) = decide (a = b) := by
 rw [Bool.eq_iff_iff, beq_iff_eq, decide_eq_true_eq, toList_data, toList_data]
 exact ⟨fun h => uD h, fun h => by rw [h]⟩
theorem It {names : List ByteArray} {s : ByteArray} {k : Nat} (hk : k < names.length) (h : gs names k = s) (hb : ∀ j, j < k → gs names j ≠ s) : fG names s = (k : Int) :=
 gF hk (fun j hj => decide_eq_false fun e => hb j hj e.symm) (decide_eq_true h.symm)
theorem Zp {names : List ByteArray} {s : ByteArray} (hb : ∀ j, j < names.length → gs names j ≠ s) : fG names s = -1 :=
 eN fun j hj => decide_eq_false fun e => hb j hj e.symm
set_option maxHeartbeats 2000000 in
theorem yI (S : Nat → Prop) (w : World) (v : Value) (names : List ByteArray) (s : ByteArray) (h : aG S w v names) (hn : names.length ≤ 1000000) :
  Calls Tryz.prog 116 #[v, .string s] w fun e w' => e = .returned (.int .i64 (fG names s)) ∧ w = w' := by
 obtain ⟨pp, pc, rfl, _, _⟩ := aC.open h
 have H : aG S w (.slice pp names.length pc) names := h
 have HH := ag H
 have jk := ag hn
 clear h H hn
 aq Tryz.func116, Tryz.ntmps116
 aa fail
 dD [5] (fun i => ∃ k : Nat, k ≤ names.length ∧ i = .int .i64 k ∧ Hid (∀ j, j < k → gs names j ≠ s)) (fun i => names.length - (intOf i).toNat)
 case atStart => exact ⟨0, Nat.zero_le _, rfl, fun j hj => by omega⟩
 case round =>
  obtain ⟨k, hk, rfl, hno⟩ := bE
  by_cases hlt : k < names.length
  ·obtain ⟨b, off, rfl, hc⟩ := dh HH.out hlt
   have i1 : (0 : Int) ≤ (k : Int) := by omega
   have i2 : (k : Int) < (names.length : Int) := by omega
   have o8 := ag hno.out
   have aU := ag hlt
   clear hno hk hlt
   by_cases e : gs names k = s
   ·have t1 : ((gs names k).toList == s.toList) = true := by rw [tV]; exact decide_eq_true e
    have HR : Hid (fG names s = (k : Int)) := It aU.out e o8.out
    clear e
    aa fail
    ax
    exact ⟨aQ (by rw [HR.out]), rfl⟩
   ·have t1 : ((gs names k).toList == s.toList) = false := by rw [tV]; exact decide_eq_false e
    have HE := ag e
    have i3 : (k : Int) < 1000000 := by have := jk.out; have := aU.out; omega
    clear e
    aa fail
    cz
    case rel => exact ⟨k + 1, aU.out, by aH, fun j hj => by
     by_cases q : j = k
     ·subst q; exact HE.out
     ·exact o8.out j (by omega)⟩
    case measure => have := aU.out; simp [intOf]; omega
  ·obtain rfl : k = names.length := by omega
   have HR : Hid (fG names s = -1) := Zp hno.out
   clear hno hk hlt
   aa fail
   ax
   exact ⟨aQ (by rw [HR.out]), rfl⟩
theorem S8 {ps : List Int} {n : Nat} (hp : gx ps = true) (hn : n < ps.length) (h0 : n ≠ 0) : dU ps n 0 = false := by
 cases e : dU ps n 0 with
 | false => rfl
 | true => have := oI hp (show 0 < ps.length by omega) e; omega
set_option maxHeartbeats 2000000 in
theorem M1 (S : Nat → Prop) (w : World) (v : Value) (t : aJ) (a b : Nat) (hT : aO S w v t) (hok : gx t.ps = true) (ha : a < t.ps.length) (hb : b < t.ps.length) :
  Calls Tryz.prog 109 #[v, .int .i64 a, .int .i64 b] w fun e w' => e = .returned (.bool (dU t.ps b a)) ∧ Up w w' := by
 obtain ⟨P, N, rfl, hP, hN⟩ := hT
 obtain ⟨pp, pc, rfl, _, _⟩ := aC.open hP
 have hP : an S w (.slice pp t.ps.length pc) t.ps := hP
 have hu := Up.alloc w (.cells #[.slice pp t.ps.length pc, N] 39)
 have hc0 := dg w (.slice pp t.ps.length pc) N 39
 have G2 := ag (an.keep hP (hu.kept S))
 have HU := ag hu
 have Lc := ag hok
 have iZ := ag hc0
 have HA := ag (And.intro ha hb)
 clear hu hP hN hok ha hb
 aq Tryz.func109, Tryz.ntmps109
 aa fail
 generalize w.alloc (.cells #[.slice pp t.ps.length pc, N] 39) = w1 at *
 clear hc0
 dD [1] (fun q => ∃ k : Nat, k ≤ a + 1 ∧ q = .int .i64 ((k : Int) - 1) ∧ Hid ((k = 0 → dU t.ps b a = false) ∧ (0 < k → dU t.ps b a = dU t.ps b (k - 1)))) (fun q => ((intOf q) + 1).toNat)
 case atStart => exact ⟨a + 1, Nat.le_refl _, by congr 1; omega, fun h => by omega, fun _ => rfl⟩
 case round =>
  obtain ⟨k, hk, rfl, hc⟩ := bE
  have hc0 := iZ.out
  cases k with
  | zero =>
   have HR : Hid (dU t.ps b a = false) := hc.out.1 rfl
   have d1 : decide ((0 : Int) ≤ (((0 : Nat) : Int) - 1)) = false := rfl
   clear hc hk
   aa fail
   ax
   exact ⟨aZ (by rw [HR.out]), HU.out⟩
  | succ k =>
   have hq : ((((k + 1 : Nat) : Int)) - 1) = (k : Int) := by omega
   rw [hq]
   have iO : k < t.ps.length := by have := HA.out.1; omega
   have hR := hc.out.2 (by omega)
   rw [Nat.add_sub_cancel] at hR
   have HR := ag hR
   have j3 : (0 : Int) ≤ (k : Int) := by omega
   have j4 : (k : Int) < (t.ps.length : Int) := by omega
   by_cases e : k = b
   ·have t1 : ((k : Int) == (b : Int)) = true := beq_iff_eq.2 (by omega)
    have HT : Hid (dU t.ps b a = true) := by unfold Hid; rw [hR, e]; exact vL b
    clear hc hR hq hk e
    aa fail
    ax
    exact ⟨aZ (by rw [HT.out]), HU.out⟩
   ·have t1 : ((k : Int) == (b : Int)) = false := beq_eq_false_iff_ne.2 (by omega)
    obtain ⟨b2, off, rfl, hcell⟩ := bV G2.out iO
    obtain ⟨p, hp, hpk, Bw⟩ : ∃ p : Nat, gi t.ps k = (p : Int) - 1 ∧ p ≤ k ∧ (p = 0 → dU t.ps b k = false) ∧ (0 < p → dU t.ps b k = dU t.ps b (p - 1)) := by
     by_cases k0 : k = 0
     ·subst k0
      refine ⟨0, Pn Lc.out iO, Nat.le_refl _, fun _ => S8 Lc.out HA.out.2 (fun q => e q.symm), fun h => by omega⟩
     ·have hpar := lI Lc.out iO (by omega)
      refine ⟨(gi t.ps k).toNat + 1, by omega, by omega, fun h => by omega, fun _ => ?_⟩
      rw [Nat.add_sub_cancel]
      by_cases hbk : b < k
      ·exact ny Lc.out iO hbk
      ·have h1 : dU t.ps b k = false := by
        cases q : dU t.ps b k with
        | false => rfl
        | true => have := oI Lc.out iO q; omega
       have h2 : dU t.ps b (gi t.ps k).toNat = false := by
        cases q : dU t.ps b (gi t.ps k).toNat with
        | false => rfl
        | true => have := oI Lc.out (show (gi t.ps k).toNat < t.ps.length by omega) q; omega
       rw [h1, h2]
    rw [hp] at hcell
    have wT := ag Bw
    have Ck := ag hpk
    have OO := ag hk
    clear hc hR hq hk Bw hp hpk e
    aa fail
    cz
    case rel => exact ⟨p, by have := Ck.out; have := OO.out; omega, rfl, fun h => by rw [HR.out]; exact wT.out.1 h, fun h => by rw [HR.out]; exact wT.out.2 h⟩
    case measure => have := Ck.out; simp [intOf]; omega
theorem Iu : ∀ {a b : List Int} {k : Nat}, k < a.length → k < b.length → (∀ j, j < k → gi a j = gi b j) → gi a k ≠ gi b k → decide (cmpL a b < 0) = decide (gi a k < gi b k)
 | [], _, k, h, _, _, _ => by simp at h
 | _ :: _, [], k, _, h, _, _ => by simp at h
 | x :: a, y :: b, 0, _, _, _, hne => by
  have hne : x ≠ y := hne
  show _ = decide (x < y)
  rw [cmpL]
  by_cases c : x < y
  ·rw [if_pos c]; simp [c]
  ·rw [if_neg c, if_pos (by omega)]; simp [c]
 | x :: a, y :: b, k + 1, h1, h2, h3, hne => by
  have h0 : x = y := h3 0 (by omega)
  rw [cmpL, if_neg (by omega), if_neg (by omega)]
  exact Iu (by simpa using h1) (by simpa using h2) (fun j hj => h3 (j + 1) (by omega)) hne
theorem AS : ∀ {a b : List Int}, (∀ j, j < a.length → j < b.length → gi a j = gi b j) → decide (cmpL a b < 0) = decide (a.length < b.length)
 | [], [], _ => rfl
 | [], _ :: _, _ => by simp [cmpL]
 | _ :: _, [], _ => by simp [cmpL]
 | x :: a, y :: b, h => by
  have h0 : x = y := h 0 (by simp) (by simp)
  rw [cmpL, if_neg (by omega), if_neg (by omega), AS (fun j h1 h2 => h (j + 1) (by simpa using h1) (by simpa using h2))]
  simp
set_option maxHeartbeats 2000000 in
theorem Iv (S T : Nat → Prop) (w : World) (v u : Value) (a b : List Int) (h : an S w v a) (h2 : an T w u b) (hn : a.length ≤ 1000000) (hm : b.length ≤ 1000000) :
  Calls Tryz.prog 113 #[v, u] w fun e w' => e = .returned (.bool (decide (cmpL a b < 0))) ∧ QD w w' := by
 obtain ⟨ap, ac, rfl, _, _⟩ := aC.open h
 obtain ⟨bp, bc, rfl, _, _⟩ := aC.open h2
 have H1 : Hid (an S w (.slice ap a.length ac) a) := h
 have H2 : Hid (an T w (.slice bp b.length bc) b) := h2
 have jk := ag (And.intro hn hm)
 clear h h2 hn hm
 aq Tryz.func113, Tryz.ntmps113
 aa fail
 aV [5] (fun i wr => ∃ k q : Nat, k ≤ a.length ∧ k ≤ b.length ∧ i = .int .i64 k ∧ Hid (∀ j, j < k → gi a j = gi b j) ∧ wr = w.drewN q) (fun i _ => a.length - (intOf i).toNat)
 case atStart => exact ⟨0, 0, Nat.zero_le _, Nat.zero_le _, rfl, fun j hj => by omega, (World.drewN_zero w).symm⟩
 case round =>
  obtain ⟨k, q, iE, hk2, rfl, hno, rfl⟩ := bE
  have o8 := ag hno.out
  have HK := ag (And.intro iE hk2)
  clear hno
  by_cases l1 : k < a.length
  ·by_cases l2 : k < b.length
   ·obtain ⟨b1, o1, rfl, c1⟩ := bV H1.out l1
    obtain ⟨b2, o2, rfl, c2⟩ := bV H2.out l2
    have c1 : (w.drewN q).cell? ⟨b1, o1 + k, none⟩ = some (.int .i64 (gi a k)) := c1
    have c2 : (w.drewN q).cell? ⟨b2, o2 + k, none⟩ = some (.int .i64 (gi b k)) := c2
    have i1 : (0 : Int) ≤ (k : Int) := by omega
    have i2 : (k : Int) < (a.length : Int) := by omega
    have i3 : (k : Int) < (b.length : Int) := by omega
    have HL := ag (And.intro l1 l2)
    have i4 : (k : Int) < 1000000 := by have := jk.out; omega
    clear l1 l2 iE hk2
    by_cases e : gi a k = gi b k
    ·have t1 : (gi a k != gi b k) = false := by rw [bne_eq_false_iff_eq]; exact e
     have HE := ag e
     clear e
     aa fail
     cn (fail)
     aa fail
     aF
     case rel => exact ⟨k + 1, _, HL.out.1, HL.out.2, by aH, fun j hj => by
      by_cases x : j = k
      ·subst x; exact HE.out
      ·exact o8.out j (by omega), rfl⟩
     case measure => have := HL.out; simp [intOf]; omega
    ·have t1 : (gi a k != gi b k) = true := bne_iff_ne.2 e
     have HR : Hid (decide (cmpL a b < 0) = decide (gi a k < gi b k)) := Iu HL.out.1 HL.out.2 o8.out e
     clear e
     aa fail
     cn (fail)
     aa fail
     cn (fail)
     aa fail
     ax
     exact ⟨aZ (by rw [HR.out]), ((show QD w (w.drewN q) from ⟨q, rfl⟩).drewN _).drewN _⟩
   ·have l2n : ¬ ((k : Int) < (b.length : Int)) := by omega
    have d2 : decide ((k : Int) < (b.length : Int)) = false := decide_eq_false l2n
    have d1 : decide ((k : Int) < (a.length : Int)) = true := decide_eq_true (by omega)
    have HR : Hid (decide (cmpL a b < 0) = decide (a.length < b.length)) := AS fun j h1 h2 => o8.out j (by omega)
    have HD : Hid (decide ((a.length : Int) < (b.length : Int)) = decide (a.length < b.length)) := by unfold Hid; simp
    have m1 : (k : Int) < (a.length : Int) := by omega
    clear iE hk2
    aa fail
    ax
    exact ⟨aZ (by rw [HR.out]), ⟨q, rfl⟩⟩
  ·have HR : Hid (decide (cmpL a b < 0) = decide (a.length < b.length)) := AS fun j h1 h2 => o8.out j (by omega)
   have HD : Hid (decide ((a.length : Int) < (b.length : Int)) = decide (a.length < b.length)) := by unfold Hid; simp
   have d1 : decide ((k : Int) < (a.length : Int)) = false := decide_eq_false (by omega)
   have m1 : ¬ (k : Int) < (a.length : Int) := by omega
   clear iE hk2
   aa fail
   ax
   exact ⟨aZ (by rw [HR.out]), ⟨q, rfl⟩⟩
theorem Iw {t : aJ} {names : List ByteArray} : oO t names = true ↔ ∃ j, j < t.ns.length ∧ (gs t.ns j).size ≠ 0 ∧ fG names (gs t.ns j) < 0 := by
 constructor
 ·intro h
  obtain ⟨i, hi, e⟩ := List.any_eq_true.1 h
  obtain ⟨j, e1, e2, e3⟩ := kI.1 (qj (List.mem_range.1 hi))
  have e := of_decide_eq_true e
  rw [e1, Int.toNat_natCast] at e
  exact ⟨j, e2, e3, e⟩
 ·rintro ⟨j, h1, h2, h3⟩
  obtain ⟨i, hi, e⟩ := vQ (kI.2 ⟨j, rfl, h1, h2⟩)
  exact List.any_eq_true.2 ⟨i, List.mem_range.2 hi, decide_eq_true (by rw [e, Int.toNat_natCast]; exact h3)⟩
theorem V2 {names : List ByteArray} {k : Nat} (hk : k < names.length) : dO names k = !decide (fG names (gs names k) = (k : Int)) := by
 cases h : dO names k with
 | false =>
  have : fG names (gs names k) = (k : Int) := It hk rfl fun j hj e => by
   have := any_false h hj
   rw [e] at this; simp at this
  rw [this]; simp
 | true =>
  obtain ⟨j, hj, e⟩ := List.any_eq_true.1 h
  have hj := List.mem_range.1 hj
  have e := of_decide_eq_true e
  have : ¬ fG names (gs names k) = (k : Int) := fun q => by
   obtain ⟨_, _, h3⟩ := nZ (p := fun j => decide (gs names k = gs names j)) q
   have := h3 j hj
   rw [e] at this; simp at this
  rw [decide_eq_false this]; rfl
set_option maxHeartbeats 4000000 in
theorem S9 (S T : Nat → Prop) (w : World) (v u : Value) (t : aJ) (names : List ByteArray) (hT : aO S w v t) (hV : aG T w u names) (hp : t.ps.length ≤ 1000000) (hn : t.ns.length ≤ 1000000) (hz : ∀ k, (gs t.ns k).size ≤ 70000) (hm : names.length ≤ 1000000) :
  Calls Tryz.prog 108 #[v, u] w fun e w' => e = .returned (.int .i64 (aT t names)) ∧ Up w w' := by
 obtain ⟨P, N, rfl, hP, hN⟩ := hT
 obtain ⟨pn, pm, rfl, -, -⟩ := aC.open hN
 obtain ⟨up, uc, rfl, -, -⟩ := aC.open hV
 have hN : aG S w (.slice pn t.ns.length pm) t.ns := hN
 have hV : aG T w (.slice up names.length uc) names := hV
 have hu := Up.alloc w (.cells #[P, .slice pn t.ns.length pm] 39)
 have zO : Hid (aO S (w.alloc (.cells #[P, .slice pn t.ns.length pm] 39)) (.agg #[P, .slice pn t.ns.length pm]) t) := aO.keep ⟨P, _, rfl, hP, hN⟩ (hu.kept _)
 have s0 := ag (aG.keep hN (hu.kept S))
 have HV1 := ag (aG.keep hV (hu.kept T))
 have fO := ag (Gr S _ _ t zO.out hp hn hz)
 have HU := ag hu
 have iZ := ag (dg w P (.slice pn t.ns.length pm) 39)
 have eH := ag (dy w P (.slice pn t.ns.length pm) 39)
 have hc0 := iZ.out
 have hc1 := eH.out
 have jk := ag (And.intro hn hm)
 clear hu hP hN hV hp hn hm hz
 aq Tryz.func108, Tryz.ntmps108
 aa fail
 generalize w.alloc (.cells #[P, .slice pn t.ns.length pm] 39) = w1 at *
 refine fO.out.mono ?_
 rintro e w2 ⟨rfl, bK⟩
 have aL : Up w1 w2 := bK
 have eH := ag (aL.cell eH.out)
 have tC := ag (s0.out.keep (aL.kept S))
 have K6 := ag (HV1.out.keep (aL.kept T))
 have cM := ag (HU.out.trans aL)
 clear bK aL fO zO HU s0 HV1 iZ hc0 hc1
 by_cases he : aK t = 0
 ·have KD : Hid (aT t names = if 32 < names.length then 4 else if sK names then 7 else if (bD t.ns).length ≠ names.length ∨ oO t names = true then 9 else 0) := by
   unfold Hid aT; rw [if_neg (by simp [he])]
  have xG : Hid (t.ns.length ≤ 64) := by
   obtain ⟨-, YB, hnl, -, -⟩ := aP he
   unfold Hid; omega
  rw [he]
  clear he
  by_cases c1 : 32 < names.length
  ·have d1 : (32 : Int) < (names.length : Int) := by omega
   have kF : Hid (aT t names = 4) := by unfold Hid; rw [KD.out, if_pos c1]
   aa fail
   ax
   exact ⟨aQ (by rw [kF.out]), cM.out⟩
  ·have d1 : ¬ (32 : Int) < (names.length : Int) := by omega
   have kF : Hid (aT t names = if sK names then 7 else if (bD t.ns).length ≠ names.length ∨ oO t names = true then 9 else 0) := by unfold Hid; rw [KD.out, if_neg c1]
   have wO : Hid (names.length ≤ 32) := by unfold Hid; omega
   aa fail
   clear c1 d1 KD
   dD [5] (fun i => ∃ k : Nat, k ≤ names.length ∧ i = .int .i64 k ∧ Hid (∀ j, j < k → dO names j = false)) (fun i => names.length - (intOf i).toNat)
   case atStart => exact ⟨0, Nat.zero_le _, rfl, fun j hj => by omega⟩
   case round =>
    obtain ⟨k, hk, rfl, hno⟩ := bE
    by_cases hlt : k < names.length
    ·obtain ⟨b, off, rfl, hc⟩ := dh K6.out hlt
     have i1 : (0 : Int) ≤ (k : Int) := by omega
     have i2 : (k : Int) < (names.length : Int) := by omega
     have i3 : (k : Int) < 64 := by have := wO.out; omega
     have ew := ag (yI T w2 _ names (gs names k) K6.out jk.out.2)
     have ir := ag (V2 hlt)
     have o8 := ag hno.out
     have aU := ag hlt
     clear hno hk hlt
     aa fail
     refine ew.out.mono ?_
     rintro e w3 ⟨rfl, rfl⟩
     by_cases e : fG names (gs names k) = (k : Int)
     ·have t1 : (fG names (gs names k) != (k : Int)) = false := by rw [e]; simp
      have HS : Hid (dO names k = false) := by unfold Hid; rw [ir.out, decide_eq_true e]; rfl
      clear e ew
      aa fail
      cz
      case rel => exact ⟨k + 1, aU.out, by aH, fun j hj => by
       by_cases x : j = k
       ·subst x; exact HS.out
       ·exact o8.out j (by omega)⟩
      case measure => have := aU.out; simp [intOf]; omega
     ·have t1 : (fG names (gs names k) != (k : Int)) = true := bne_iff_ne.2 e
      have HS : Hid (aT t names = 7) := by
       unfold Hid
       have : sK names = true := List.any_eq_true.2 ⟨k, List.mem_range.2 aU.out, by rw [ir.out, decide_eq_false e]; rfl⟩
       rw [kF.out, if_pos this]
      clear ew
      aa fail
      ax
      exact ⟨aQ (by rw [HS.out]), cM.out⟩
    ·obtain rfl : k = names.length := by omega
     have hdup : sK names = false := any_none fun j hj => hno.out j hj
     have nR : Hid (aT t names = if (bD t.ns).length ≠ names.length ∨ oO t names = true then 9 else 0) := by unfold Hid; rw [kF.out, hdup, if_neg (by decide)]
     have hc1 := eH.out
     clear hno hk hlt hdup kF
     aa fail
     dD [6, 7] (fun c i => ∃ k : Nat, k ≤ t.ns.length ∧ c = .int .i64 (gT t.ns k).length ∧ i = .int .i64 k ∧ Hid (∀ j, j < k → (gs t.ns j).size ≠ 0 → ¬ fG names (gs t.ns j) < 0)) (fun _ i => t.ns.length - (intOf i).toNat)
     case atStart => exact ⟨0, Nat.zero_le _, rfl, rfl, fun j hj => by omega⟩
     case round =>
      obtain ⟨k, hk, rfl, rfl, hno⟩ := bE
      have hc1 := eH.out
      by_cases hlt : k < t.ns.length
      ·obtain ⟨b, off, rfl, hc⟩ := dh tC.out hlt
       have i1 : (0 : Int) ≤ (k : Int) := by omega
       have i2 : (k : Int) < (t.ns.length : Int) := by omega
       have i3 : (k : Int) < 64 := by have := xG.out; omega
       have ew := ag (yI T w2 _ names (gs t.ns k) K6.out jk.out.2)
       have hsu := xm t.ns k
       have Du := zq t.ns k
       have i4 : ((gT t.ns k).length : Int) < 64 := by have := xG.out; omega
       have Dv := ag hsu
       have o8 := ag hno.out
       have aU := ag hlt
       have hnil := toList_nil (gs t.ns k)
       clear hno hk hlt hsu Du
       by_cases g0 : (gs t.ns k).size = 0
       ·have hg1 : (gs t.ns k).toList = [] := hnil.2 g0
        have jH : Hid ((gT t.ns (k + 1)).length = (gT t.ns k).length) := by unfold Hid; rw [Dv.out, if_pos g0, List.append_nil]
        have HG := ag g0
        clear g0 hnil
        aa fail
        cz
        case rel => exact ⟨k + 1, aU.out, by rw [jH.out], by aH, fun j hj h0 => by
         by_cases x : j = k
         ·subst x; exact absurd HG.out h0
         ·exact o8.out j (by omega) h0⟩
        case measure => have := aU.out; simp [intOf]; omega
       ·have hg1 : ((gs t.ns k).toList == []) = false := by
         rw [Bool.eq_false_iff]; intro e; exact g0 (hnil.1 (by simpa using e))
        have jH : Hid (((gT t.ns (k + 1)).length : Int) = ((gT t.ns k).length : Int) + 1) := by unfold Hid; rw [Dv.out, if_neg g0, List.length_append, List.length_singleton]; omega
        have HG := ag g0
        clear g0 hnil
        by_cases e : fG names (gs t.ns k) < 0
        ·have KE : Hid (aT t names = 9) := by
          unfold Hid
          rw [nR.out, if_pos (.inr (Iw.2 ⟨k, aU.out, HG.out, e⟩))]
         aa fail
         refine ew.out.mono ?_
         rintro e w3 ⟨rfl, rfl⟩
         clear ew
         aa fail
         ax
         exact ⟨aQ (by rw [KE.out]), cM.out⟩
        ·have HE := ag e
         aa fail
         refine ew.out.mono ?_
         rintro e w3 ⟨rfl, rfl⟩
         clear ew
         aa fail
         cz
         case rel => exact ⟨k + 1, aU.out, by rw [jH.out], by aH, fun j hj h0 => by
          by_cases x : j = k
          ·subst x; have := HE.out; omega
          ·have := o8.out j (by omega) h0; omega⟩
         case measure => have := aU.out; simp [intOf]; omega
      ·obtain rfl : k = t.ns.length := by omega
       have hoff : oO t names = false := by
        cases e : oO t names with
        | false => rfl
        | true =>
         obtain ⟨j, h1, h2, h3⟩ := Iw.1 e
         exact absurd h3 (hno.out j h1 h2)
       have Du : (gT t.ns t.ns.length).length = (bD t.ns).length := rfl
       have KE : Hid (aT t names = if (bD t.ns).length ≠ names.length then 9 else 0) := by
        unfold Hid
        rw [nR.out, hoff]
        by_cases x : (bD t.ns).length ≠ names.length
        ·rw [if_pos x, if_pos (.inl x)]
        ·rw [if_neg x, if_neg (by rintro (h | h); exact x h; cases h)]
       clear hno hk hlt hoff
       rw [Du]
       clear Du
       by_cases x : (bD t.ns).length = names.length
       ·have t1 : (((bD t.ns).length : Int) != (names.length : Int)) = false := by rw [x]; simp
        have Qg : Hid (aT t names = 0) := by unfold Hid; rw [KE.out, if_neg (by simp [x])]
        have zy := ag x
        clear x
        aa fail
        ax
        exact ⟨aQ (by rw [Qg.out]), cM.out⟩
       ·have t1 : (((bD t.ns).length : Int) != (names.length : Int)) = true := bne_iff_ne.2 (by omega)
        have Qg : Hid (aT t names = 9) := by unfold Hid; rw [KE.out, if_pos x]
        aa fail
        ax
        exact ⟨aQ (by rw [Qg.out]), cM.out⟩
 ·have F0 : (aK t != 0) = true := by simpa using he
  have kF : Hid (aT t names = 1) := by unfold Hid aT; rw [if_pos he]
  clear he
  generalize aK t = te at F0 ⊢
  aa fail
  ax
  exact ⟨aQ (by rw [kF.out]), cM.out⟩
end
section
def iwO (s : List Int) : List (List Int) → List (List Int)
 | [] => [s]
 | b :: l => if cmpL b s < 0 then b :: iwO s l else if b = s then b :: l else s :: b :: l
def nX (s : List Int) : List (List Int) → Nat
 | [] => 0
 | b :: l => if cmpL b s < 0 then nX s l + 1 else 0
theorem Qh (s : List Int) : ∀ l, nX s l ≤ l.length
 | [] => Nat.le_refl _
 | b :: l => by
  have := Qh s l
  rw [nX, List.length_cons]
  split <;> omega
theorem Cy (s : List Int) : ∀ (l : List (List Int)) (j : Nat), j < nX s l → cmpL (gl l j) s < 0
 | [], j, h => by rw [nX] at h; omega
 | b :: l, j, h => by
  rw [nX] at h
  split at h
  ·rename_i hb
   cases j with
   | zero => exact hb
   | succ j => exact Cy s l j (by omega)
  ·omega
theorem Qi (s : List Int) : ∀ l : List (List Int), nX s l < l.length → ¬ cmpL (gl l (nX s l)) s < 0
 | [], h => by rw [List.length_nil] at h; omega
 | b :: l, h => by
  rw [nX] at h ⊢
  split
  ·rename_i hb
   rw [if_pos hb, List.length_cons] at h
   exact Qi s l (by omega)
  ·assumption
theorem Qj {s : List Int} {l : List (List Int)} {k : Nat} (h1 : k ≤ l.length) (h2 : ∀ j, j < k → cmpL (gl l j) s < 0) (h3 : k = l.length ∨ ¬ cmpL (gl l k) s < 0) : k = nX s l := by
 rcases Nat.lt_trichotomy k (nX s l) with h | h | h
 ·rcases h3 with h3 | h3
  ·have := Qh s l; omega
  ·exact absurd (Cy s l k h) h3
 ·exact h
 ·exact absurd (h2 _ h) (Qi s l (by omega))
theorem tW (s : List Int) : ∀ l : List (List Int), iwO s l = if nX s l < l.length ∧ gl l (nX s l) = s then l else l.take (nX s l) ++ s :: l.drop (nX s l)
 | [] => by rw [iwO, if_neg (fun h => by have := h.1; rw [List.length_nil] at this; omega)]; rfl
 | b :: l => by
  rw [iwO, nX]
  by_cases hb : cmpL b s < 0
  ·rw [if_pos hb, if_pos hb, tW s l, List.length_cons]
   have e : gl (b :: l) (nX s l + 1) = gl l (nX s l) := rfl
   rw [e]
   by_cases h : nX s l < l.length ∧ gl l (nX s l) = s
   ·rw [if_pos h, if_pos ⟨by omega, h.2⟩]
   ·rw [if_neg h, if_neg (fun q => h ⟨by omega, q.2⟩), List.take_succ_cons, List.drop_succ_cons]; rfl
  ·rw [if_neg hb, if_neg hb]
   by_cases h : b = s
   ·rw [if_pos h, if_pos ⟨by simp, h⟩]
   ·rw [if_neg h, if_neg (fun q => h q.2)]; rfl
theorem Dg {s x : List Int} : ∀ {l : List (List Int)}, x ∈ iwO s l ↔ x = s ∨ x ∈ l
 | [] => by rw [iwO]; simp
 | b :: l => by
  rw [iwO]
  split
  ·rw [List.mem_cons, Dg, List.mem_cons]
   constructor
   ·rintro (h | h | h)
    ·exact .inr (.inl h)
    ·exact .inl h
    ·exact .inr (.inr h)
   ·rintro (h | h | h)
    ·exact .inr (.inl h)
    ·exact .inl h
    ·exact .inr (.inr h)
  ·split
   ·rename_i e
    subst e
    simp
   ·simp
theorem Cz {s : List Int} : ∀ {l : List (List Int)}, l.Pairwise tL → (iwO s l).Pairwise tL
 | [], _ => by rw [iwO]; exact List.pairwise_singleton _ _
 | b :: l, h => by
  obtain ⟨h1, h2⟩ := List.pairwise_cons.1 h
  rw [iwO]
  split
  ·rename_i hb
   refine List.pairwise_cons.2 ⟨fun x hx => ?_, Cz h2⟩
   rcases Dg.1 hx with rfl | hx
   ·exact hb
   ·exact h1 x hx
  ·split
   ·exact h
   ·rename_i hb hne
    have YC : tL s b := by
     have h3 := j8 b s
     have h4 : cmpL b s ≠ 0 := fun e => hne (jo e)
     show cmpL s b < 0
     omega
    refine List.pairwise_cons.2 ⟨fun x hx => ?_, h⟩
    rcases List.mem_cons.1 hx with rfl | hx
    ·exact YC
    ·exact oL YC (h1 x hx)
def owK (t : aJ) (names : List ByteArray) : Nat → List (List Int)
 | 0 => []
 | k + 1 => if aN names.length (bC names.length (aW t names (k + 1))) = 0 then iwO (bC names.length (aW t names (k + 1))) (owK t names k) else owK t names k
theorem wg (t : aJ) (names : List ByteArray) : ∀ k, (owK t names k).Pairwise tL
 | 0 => List.Pairwise.nil
 | k + 1 => by
  rw [owK]
  split
  ·exact Cz (wg t names k)
  ·exact wg t names k
theorem zk {t : aJ} {names : List ByteArray} {x : List Int} : ∀ {k : Nat}, x ∈ owK t names k ↔ ∃ j, 1 ≤ j ∧ j ≤ k ∧ aN names.length (bC names.length (aW t names j)) = 0 ∧ x = bC names.length (aW t names j)
 | 0 => ⟨fun h => (by cases h), fun ⟨j, h1, h2, _⟩ => by omega⟩
 | k + 1 => by
  rw [owK]
  split
  ·rename_i h0
   rw [Dg, zk]
   constructor
   ·rintro (h | ⟨j, h1, h2, h3⟩)
    ·exact ⟨k + 1, by omega, Nat.le_refl _, h0, h⟩
    ·exact ⟨j, h1, by omega, h3⟩
   ·rintro ⟨j, h1, h2, h3, h4⟩
    by_cases e : j = k + 1
    ·subst e; exact .inl h4
    ·exact .inr ⟨j, h1, by omega, h3, h4⟩
  ·rename_i h0
   rw [zk]
   constructor
   ·rintro ⟨j, h1, h2, h3⟩
    exact ⟨j, h1, by omega, h3⟩
   ·rintro ⟨j, h1, h2, h3, h4⟩
    by_cases e : j = k + 1
    ·subst e; exact absurd h3 h0
    ·exact ⟨j, h1, by omega, h3, h4⟩
theorem Dh (t : aJ) (names : List ByteArray) : ∀ k, (owK t names k).length ≤ k
 | 0 => Nat.le_refl _
 | k + 1 => by
  have ih := Dh t names k
  have hl : ∀ (s : List Int) (l : List (List Int)), (iwO s l).length ≤ l.length + 1 := fun s l => by
   rw [tW]
   split
   ·omega
   ·rw [List.length_append, List.length_cons, List.length_take, List.length_drop]; omega
  rw [owK]
  split
  ·have := hl (bC names.length (aW t names (k + 1))) (owK t names k); omega
  ·omega
theorem V3 {t : aJ} {names : List ByteArray} (h : 0 < t.ps.length) : owK t names (t.ps.length - 1) = qI (AH t names) := by
 refine C9 (wg _ _ _) (mS _) fun x => ?_
 rw [zk, sJ]
 unfold AH
 rw [List.mem_filter, List.mem_map]
 constructor
 ·rintro ⟨j, h1, h2, h3, h4⟩
  refine ⟨⟨j, ?_, h4.symm⟩, by rw [h4]; simpa using h3⟩
  rw [List.mem_filter, List.mem_range]
  exact ⟨by omega, decide_eq_true (by omega)⟩
 ·rintro ⟨⟨j, h1, h2⟩, h3⟩
  rw [List.mem_filter, List.mem_range] at h1
  have h4 : 0 < j := by simpa using h1.2
  exact ⟨j, by omega, by omega, by rw [h2]; simpa using h3, h2.symm⟩
end
end Go.Proofs.YtpnmblnahjjmhaaGreat
