/- The contracts of layer 32's reference's place, below, less and fits. The reference's list .. -/
import Derived.Test.YtpnmblnahjjmhaaGreatQ40
import Derived.Test.YtpnmblnahjjmhaaGreatQ29
import Derived.Test.YtpnmblnahjjmhaaGreatQ1
import Derived.Test.YtpnmblnahjjmhaaGreatQ9
import Derived.BigQuiet
import Derived.Test.YtpnmblnahjjmhaaGreatQ37
set_option maxRecDepth 100000
namespace Go.Proofs.YtpnmblnahjjmhaaGreat
section
open Go.RowKit Go.Deep
theorem tB {a b : ByteArray} : (a.toList == b.toList) = decide (a = b) := by
 rw [Bool.eq_iff_iff, beq_iff_eq, decide_eq_true_eq, toList_data, toList_data]
 exact ⟨fun h => ua h, fun h => by rw [h]⟩
theorem Iq {names : List ByteArray} {s : ByteArray} {k : Nat} (hk : k < names.length) (h : gs names k = s) (hb : ∀ j, j < k → gs names j ≠ s) : eR names s = (k : Int) :=
 fS hk (fun j hj => decide_eq_false fun e => hb j hj e.symm) (decide_eq_true h.symm)
theorem Zs {names : List ByteArray} {s : ByteArray} (hb : ∀ j, j < names.length → gs names j ≠ s) : eR names s = -1 :=
 dP fun j hj => decide_eq_false fun e => hb j hj e.symm
set_option maxHeartbeats 2000000 in
theorem ym (S : Nat → Prop) (w : World) (v : Value) (names : List ByteArray) (s : ByteArray) (h : ay S w v names) (hn : names.length ≤ 1000000) :
  Calls Tryz.prog 116 #[v, .string s] w fun e w' => e = .returned (.int .i64 (eR names s)) ∧ w = w' := by
 obtain ⟨pp, pc, rfl, _, _⟩ := av.open h
 have H : ay S w (.slice pp names.length pc) names := h
 have HH := aa H
 have iL := aa hn
 clear h H hn
 go_enter Tryz.func116, Tryz.ntmps116
 go_wp2_with fail
 go_loop [5] (fun i => ∃ k : Nat, k ≤ names.length ∧ i = .int .i64 k ∧ Hid (∀ j, j < k → gs names j ≠ s)) (fun i => names.length - (intOf i).toNat)
 case atStart => exact ⟨0, Nat.zero_le _, rfl, fun j hj => by omega⟩
 case round =>
  obtain ⟨k, hk, rfl, hno⟩ := hrel
  by_cases hlt : k < names.length
  ·obtain ⟨b, off, rfl, hc⟩ := cC HH.out hlt
   have i1 : (0 : Int) ≤ (k : Int) := by omega
   have i2 : (k : Int) < (names.length : Int) := by omega
   have ow := aa hno.out
   have aM := aa hlt
   clear hno hk hlt
   by_cases e : gs names k = s
   ·have t1 : ((gs names k).toList == s.toList) = true := by rw [tB]; exact decide_eq_true e
    have HR : Hid (eR names s = (k : Int)) := Iq aM.out e ow.out
    clear e
    go_wp2_with fail
    go_ret
    exact ⟨aI (by rw [HR.out]), rfl⟩
   ·have t1 : ((gs names k).toList == s.toList) = false := by rw [tB]; exact decide_eq_false e
    have HE := aa e
    have i3 : (k : Int) < 1000000 := by have := iL.out; have := aM.out; omega
    clear e
    go_wp2_with fail
    go_round
    case rel => exact ⟨k + 1, aM.out, by go_num, fun j hj => by
     by_cases q : j = k
     ·subst q; exact HE.out
     ·exact ow.out j (by omega)⟩
    case measure => have := aM.out; simp [intOf]; omega
  ·obtain rfl : k = names.length := by omega
   have HR : Hid (eR names s = -1) := Zs hno.out
   clear hno hk hlt
   go_wp2_with fail
   go_ret
   exact ⟨aI (by rw [HR.out]), rfl⟩
theorem Ta {ps : List Int} {n : Nat} (hp : fK ps = true) (hn : n < ps.length) (h0 : n ≠ 0) : dm ps n 0 = false := by
 cases e : dm ps n 0 with
 | false => rfl
 | true => have := nO hp (show 0 < ps.length by omega) e; omega
set_option maxHeartbeats 2000000 in
theorem MX (S : Nat → Prop) (w : World) (v : Value) (t : aA) (a b : Nat) (hT : aG S w v t) (hok : fK t.ps = true) (ha : a < t.ps.length) (hb : b < t.ps.length) :
  Calls Tryz.prog 109 #[v, .int .i64 a, .int .i64 b] w fun e w' => e = .returned (.bool (dm t.ps b a)) ∧ Up w w' := by
 obtain ⟨P, N, rfl, hP, hN⟩ := hT
 obtain ⟨pp, pc, rfl, _, _⟩ := av.open hP
 have hP : af S w (.slice pp t.ps.length pc) t.ps := hP
 have hu := Up.alloc w (.cells #[.slice pp t.ps.length pc, N] 39)
 have hc0 := cB w (.slice pp t.ps.length pc) N 39
 have G0 := aa (af.keep hP (hu.kept S))
 have HU := aa hu
 have K9 := aa hok
 have iE := aa hc0
 have HA := aa (And.intro ha hb)
 clear hu hP hN hok ha hb
 go_enter Tryz.func109, Tryz.ntmps109
 go_wp2_with fail
 generalize w.alloc (.cells #[.slice pp t.ps.length pc, N] 39) = w1 at *
 clear hc0
 go_loop [1] (fun q => ∃ k : Nat, k ≤ a + 1 ∧ q = .int .i64 ((k : Int) - 1) ∧ Hid ((k = 0 → dm t.ps b a = false) ∧ (0 < k → dm t.ps b a = dm t.ps b (k - 1)))) (fun q => ((intOf q) + 1).toNat)
 case atStart => exact ⟨a + 1, Nat.le_refl _, by congr 1; omega, fun h => by omega, fun _ => rfl⟩
 case round =>
  obtain ⟨k, hk, rfl, hc⟩ := hrel
  have hc0 := iE.out
  cases k with
  | zero =>
   have HR : Hid (dm t.ps b a = false) := hc.out.1 rfl
   have d1 : decide ((0 : Int) ≤ (((0 : Nat) : Int) - 1)) = false := rfl
   clear hc hk
   go_wp2_with fail
   go_ret
   exact ⟨aO (by rw [HR.out]), HU.out⟩
  | succ k =>
   have hq : ((((k + 1 : Nat) : Int)) - 1) = (k : Int) := by omega
   rw [hq]
   have iq : k < t.ps.length := by have := HA.out.1; omega
   have hR := hc.out.2 (by omega)
   rw [Nat.add_sub_cancel] at hR
   have HR := aa hR
   have j3 : (0 : Int) ≤ (k : Int) := by omega
   have j4 : (k : Int) < (t.ps.length : Int) := by omega
   by_cases e : k = b
   ·have t1 : ((k : Int) == (b : Int)) = true := beq_iff_eq.2 (by omega)
    have HT : Hid (dm t.ps b a = true) := by unfold Hid; rw [hR, e]; exact vt b
    clear hc hR hq hk e
    go_wp2_with fail
    go_ret
    exact ⟨aO (by rw [HT.out]), HU.out⟩
   ·have t1 : ((k : Int) == (b : Int)) = false := beq_eq_false_iff_ne.2 (by omega)
    obtain ⟨b2, off, rfl, hcell⟩ := bw G0.out iq
    obtain ⟨p, hp, hpk, Bg⟩ : ∃ p : Nat, gi t.ps k = (p : Int) - 1 ∧ p ≤ k ∧ (p = 0 → dm t.ps b k = false) ∧ (0 < p → dm t.ps b k = dm t.ps b (p - 1)) := by
     by_cases k0 : k = 0
     ·subst k0
      refine ⟨0, Pk K9.out iq, Nat.le_refl _, fun _ => Ta K9.out HA.out.2 (fun q => e q.symm), fun h => by omega⟩
     ·have hpar := kJ K9.out iq (by omega)
      refine ⟨(gi t.ps k).toNat + 1, by omega, by omega, fun h => by omega, fun _ => ?_⟩
      rw [Nat.add_sub_cancel]
      by_cases hbk : b < k
      ·exact mC K9.out iq hbk
      ·have h1 : dm t.ps b k = false := by
        cases q : dm t.ps b k with
        | false => rfl
        | true => have := nO K9.out iq q; omega
       have h2 : dm t.ps b (gi t.ps k).toNat = false := by
        cases q : dm t.ps b (gi t.ps k).toNat with
        | false => rfl
        | true => have := nO K9.out (show (gi t.ps k).toNat < t.ps.length by omega) q; omega
       rw [h1, h2]
    rw [hp] at hcell
    have wE := aa Bg
    have B9 := aa hpk
    have OJ := aa hk
    clear hc hR hq hk Bg hp hpk e
    go_wp2_with fail
    go_round
    case rel => exact ⟨p, by have := B9.out; have := OJ.out; omega, rfl, fun h => by rw [HR.out]; exact wE.out.1 h, fun h => by rw [HR.out]; exact wE.out.2 h⟩
    case measure => have := B9.out; simp [intOf]; omega
theorem Ir : ∀ {a b : List Int} {k : Nat}, k < a.length → k < b.length → (∀ j, j < k → gi a j = gi b j) → gi a k ≠ gi b k → decide (cmpL a b < 0) = decide (gi a k < gi b k)
 | [], _, k, h, _, _, _ => by simp at h
 | _ :: _, [], k, _, h, _, _ => by simp at h
 | x :: a, y :: b, 0, _, _, _, hne => by
  have hne : x ≠ y := hne
  show _ = decide (x < y)
  rw [cmpL]
  by_cases c : x < y
  ·rw [if_pos c]; simp [c]
  ·rw [if_neg c, if_pos (by omega)]; simp [c]
 | x :: a, y :: b, k + 1, h1, h2, h3, hne => by
  have h0 : x = y := h3 0 (by omega)
  rw [cmpL, if_neg (by omega), if_neg (by omega)]
  exact Ir (by simpa using h1) (by simpa using h2) (fun j hj => h3 (j + 1) (by omega)) hne
theorem Az : ∀ {a b : List Int}, (∀ j, j < a.length → j < b.length → gi a j = gi b j) → decide (cmpL a b < 0) = decide (a.length < b.length)
 | [], [], _ => rfl
 | [], _ :: _, _ => by simp [cmpL]
 | _ :: _, [], _ => by simp [cmpL]
 | x :: a, y :: b, h => by
  have h0 : x = y := h 0 (by simp) (by simp)
  rw [cmpL, if_neg (by omega), if_neg (by omega), Az (fun j h1 h2 => h (j + 1) (by simpa using h1) (by simpa using h2))]
  simp
set_option maxHeartbeats 2000000 in
theorem Iu (S T : Nat → Prop) (w : World) (v u : Value) (a b : List Int) (h : af S w v a) (h2 : af T w u b) (hn : a.length ≤ 1000000) (hm : b.length ≤ 1000000) :
  Calls Tryz.prog 113 #[v, u] w fun e w' => e = .returned (.bool (decide (cmpL a b < 0))) ∧ QD w w' := by
 obtain ⟨ap, ac, rfl, _, _⟩ := av.open h
 obtain ⟨bp, bc, rfl, _, _⟩ := av.open h2
 have H1 : Hid (af S w (.slice ap a.length ac) a) := h
 have H2 : Hid (af T w (.slice bp b.length bc) b) := h2
 have iL := aa (And.intro hn hm)
 clear h h2 hn hm
 go_enter Tryz.func113, Tryz.ntmps113
 go_wp2_with fail
 go_loopw [5] (fun i wr => ∃ k q : Nat, k ≤ a.length ∧ k ≤ b.length ∧ i = .int .i64 k ∧ Hid (∀ j, j < k → gi a j = gi b j) ∧ wr = w.drewN q) (fun i _ => a.length - (intOf i).toNat)
 case atStart => exact ⟨0, 0, Nat.zero_le _, Nat.zero_le _, rfl, fun j hj => by omega, (World.drewN_zero w).symm⟩
 case round =>
  obtain ⟨k, q, gT, hk2, rfl, hno, rfl⟩ := hrel
  have ow := aa hno.out
  have HK := aa (And.intro gT hk2)
  clear hno
  by_cases l1 : k < a.length
  ·by_cases l2 : k < b.length
   ·obtain ⟨b1, o1, rfl, c1⟩ := bw H1.out l1
    obtain ⟨b2, o2, rfl, c2⟩ := bw H2.out l2
    have c1 : (w.drewN q).cell? ⟨b1, o1 + k, none⟩ = some (.int .i64 (gi a k)) := c1
    have c2 : (w.drewN q).cell? ⟨b2, o2 + k, none⟩ = some (.int .i64 (gi b k)) := c2
    have i1 : (0 : Int) ≤ (k : Int) := by omega
    have i2 : (k : Int) < (a.length : Int) := by omega
    have i3 : (k : Int) < (b.length : Int) := by omega
    have HL := aa (And.intro l1 l2)
    have i4 : (k : Int) < 1000000 := by have := iL.out; omega
    clear l1 l2 gT hk2
    by_cases e : gi a k = gi b k
    ·have t1 : (gi a k != gi b k) = false := by rw [bne_eq_false_iff_eq]; exact e
     have HE := aa e
     clear e
     go_wp2_with fail
     go_big_quiet (fail)
     go_wp2_with fail
     go_roundw
     case rel => exact ⟨k + 1, _, HL.out.1, HL.out.2, by go_num, fun j hj => by
      by_cases x : j = k
      ·subst x; exact HE.out
      ·exact ow.out j (by omega), rfl⟩
     case measure => have := HL.out; simp [intOf]; omega
    ·have t1 : (gi a k != gi b k) = true := bne_iff_ne.2 e
     have HR : Hid (decide (cmpL a b < 0) = decide (gi a k < gi b k)) := Ir HL.out.1 HL.out.2 ow.out e
     clear e
     go_wp2_with fail
     go_big_quiet (fail)
     go_wp2_with fail
     go_big_quiet (fail)
     go_wp2_with fail
     go_ret
     exact ⟨aO (by rw [HR.out]), ((show QD w (w.drewN q) from ⟨q, rfl⟩).drewN _).drewN _⟩
   ·have l2n : ¬ ((k : Int) < (b.length : Int)) := by omega
    have d2 : decide ((k : Int) < (b.length : Int)) = false := decide_eq_false l2n
    have d1 : decide ((k : Int) < (a.length : Int)) = true := decide_eq_true (by omega)
    have HR : Hid (decide (cmpL a b < 0) = decide (a.length < b.length)) := Az fun j h1 h2 => ow.out j (by omega)
    have HD : Hid (decide ((a.length : Int) < (b.length : Int)) = decide (a.length < b.length)) := by unfold Hid; simp
    have m1 : (k : Int) < (a.length : Int) := by omega
    clear gT hk2
    go_wp2_with fail
    go_ret
    exact ⟨aO (by rw [HR.out]), ⟨q, rfl⟩⟩
  ·have HR : Hid (decide (cmpL a b < 0) = decide (a.length < b.length)) := Az fun j h1 h2 => ow.out j (by omega)
   have HD : Hid (decide ((a.length : Int) < (b.length : Int)) = decide (a.length < b.length)) := by unfold Hid; simp
   have d1 : decide ((k : Int) < (a.length : Int)) = false := decide_eq_false (by omega)
   have m1 : ¬ (k : Int) < (a.length : Int) := by omega
   clear gT hk2
   go_wp2_with fail
   go_ret
   exact ⟨aO (by rw [HR.out]), ⟨q, rfl⟩⟩
theorem Iw {t : aA} {names : List ByteArray} : nT t names = true ↔ ∃ j, j < t.ns.length ∧ (gs t.ns j).size ≠ 0 ∧ eR names (gs t.ns j) < 0 := by
 constructor
 ·intro h
  obtain ⟨i, hi, e⟩ := List.any_eq_true.1 h
  obtain ⟨j, e1, e2, e3⟩ := jQ.1 (pg (List.mem_range.1 hi))
  have e := of_decide_eq_true e
  rw [e1, Int.toNat_natCast] at e
  exact ⟨j, e2, e3, e⟩
 ·rintro ⟨j, h1, h2, h3⟩
  obtain ⟨i, hi, e⟩ := vz (jQ.2 ⟨j, rfl, h1, h2⟩)
  exact List.any_eq_true.2 ⟨i, List.mem_range.2 hi, decide_eq_true (by rw [e, Int.toNat_natCast]; exact h3)⟩
theorem V3 {names : List ByteArray} {k : Nat} (hk : k < names.length) : cZ names k = !decide (eR names (gs names k) = (k : Int)) := by
 cases h : cZ names k with
 | false =>
  have : eR names (gs names k) = (k : Int) := Iq hk rfl fun j hj e => by
   have := any_false h hj
   rw [e] at this; simp at this
  rw [this]; simp
 | true =>
  obtain ⟨j, hj, e⟩ := List.any_eq_true.1 h
  have hj := List.mem_range.1 hj
  have e := of_decide_eq_true e
  have : ¬ eR names (gs names k) = (k : Int) := fun q => by
   obtain ⟨_, _, h3⟩ := ni (p := fun j => decide (gs names k = gs names j)) q
   have := h3 j hj
   rw [e] at this; simp at this
  rw [decide_eq_false this]; rfl
set_option maxHeartbeats 4000000 in
theorem Tb (S T : Nat → Prop) (w : World) (v u : Value) (t : aA) (names : List ByteArray) (hT : aG S w v t) (hV : ay T w u names) (hp : t.ps.length ≤ 1000000) (hn : t.ns.length ≤ 1000000) (hz : ∀ k, (gs t.ns k).size ≤ 70000) (hm : names.length ≤ 1000000) :
  Calls Tryz.prog 108 #[v, u] w fun e w' => e = .returned (.int .i64 (aL t names)) ∧ Up w w' := by
 obtain ⟨P, N, rfl, hP, hN⟩ := hT
 obtain ⟨pn, pm, rfl, -, -⟩ := av.open hN
 obtain ⟨up, uc, rfl, -, -⟩ := av.open hV
 have hN : ay S w (.slice pn t.ns.length pm) t.ns := hN
 have hV : ay T w (.slice up names.length uc) names := hV
 have hu := Up.alloc w (.cells #[P, .slice pn t.ns.length pm] 39)
 have zx : Hid (aG S (w.alloc (.cells #[P, .slice pn t.ns.length pm] 39)) (.agg #[P, .slice pn t.ns.length pm]) t) := aG.keep ⟨P, _, rfl, hP, hN⟩ (hu.kept _)
 have su := aa (ay.keep hN (hu.kept S))
 have HV1 := aa (ay.keep hV (hu.kept T))
 have e9 := aa (Gm S _ _ t zx.out hp hn hz)
 have HU := aa hu
 have iE := aa (cB w P (.slice pn t.ns.length pm) 39)
 have dM := aa (cI w P (.slice pn t.ns.length pm) 39)
 have hc0 := iE.out
 have hc1 := dM.out
 have iL := aa (And.intro hn hm)
 clear hu hP hN hV hp hn hm hz
 go_enter Tryz.func108, Tryz.ntmps108
 go_wp2_with fail
 generalize w.alloc (.cells #[P, .slice pn t.ns.length pm] 39) = w1 at *
 refine e9.out.mono ?_
 rintro e w2 ⟨rfl, hb2⟩
 have aC : Up w1 w2 := hb2
 have dM := aa (aC.cell dM.out)
 have sV := aa (su.out.keep (aC.kept S))
 have K3 := aa (HV1.out.keep (aC.kept T))
 have bU := aa (HU.out.trans aC)
 clear hb2 aC e9 zx HU su HV1 iE hc0 hc1
 by_cases he : aB t = 0
 ·have KC : Hid (aL t names = if 32 < names.length then 4 else if rW names then 7 else if (aV t.ns).length ≠ names.length ∨ nT t names = true then 9 else 0) := by
   unfold Hid aL; rw [if_neg (by simp [he])]
  have xd : Hid (t.ns.length ≤ 64) := by
   obtain ⟨-, YE, hnl, -, -⟩ := aH he
   unfold Hid; omega
  rw [he]
  clear he
  by_cases c1 : 32 < names.length
  ·have d1 : (32 : Int) < (names.length : Int) := by omega
   have jN : Hid (aL t names = 4) := by unfold Hid; rw [KC.out, if_pos c1]
   go_wp2_with fail
   go_ret
   exact ⟨aI (by rw [jN.out]), bU.out⟩
  ·have d1 : ¬ (32 : Int) < (names.length : Int) := by omega
   have jN : Hid (aL t names = if rW names then 7 else if (aV t.ns).length ≠ names.length ∨ nT t names = true then 9 else 0) := by unfold Hid; rw [KC.out, if_neg c1]
   have wA : Hid (names.length ≤ 32) := by unfold Hid; omega
   go_wp2_with fail
   clear c1 d1 KC
   go_loop [5] (fun i => ∃ k : Nat, k ≤ names.length ∧ i = .int .i64 k ∧ Hid (∀ j, j < k → cZ names j = false)) (fun i => names.length - (intOf i).toNat)
   case atStart => exact ⟨0, Nat.zero_le _, rfl, fun j hj => by omega⟩
   case round =>
    obtain ⟨k, hk, rfl, hno⟩ := hrel
    by_cases hlt : k < names.length
    ·obtain ⟨b, off, rfl, hc⟩ := cC K3.out hlt
     have i1 : (0 : Int) ≤ (k : Int) := by omega
     have i2 : (k : Int) < (names.length : Int) := by omega
     have i3 : (k : Int) < 64 := by have := wA.out; omega
     have dD := aa (ym T w2 _ names (gs names k) K3.out iL.out.2)
     have gJ := aa (V3 hlt)
     have ow := aa hno.out
     have aM := aa hlt
     clear hno hk hlt
     go_wp2_with fail
     refine dD.out.mono ?_
     rintro e w3 ⟨rfl, rfl⟩
     by_cases e : eR names (gs names k) = (k : Int)
     ·have t1 : (eR names (gs names k) != (k : Int)) = false := by rw [e]; simp
      have HS : Hid (cZ names k = false) := by unfold Hid; rw [gJ.out, decide_eq_true e]; rfl
      clear e dD
      go_wp2_with fail
      go_round
      case rel => exact ⟨k + 1, aM.out, by go_num, fun j hj => by
       by_cases x : j = k
       ·subst x; exact HS.out
       ·exact ow.out j (by omega)⟩
      case measure => have := aM.out; simp [intOf]; omega
     ·have t1 : (eR names (gs names k) != (k : Int)) = true := bne_iff_ne.2 e
      have HS : Hid (aL t names = 7) := by
       unfold Hid
       have : rW names = true := List.any_eq_true.2 ⟨k, List.mem_range.2 aM.out, by rw [gJ.out, decide_eq_false e]; rfl⟩
       rw [jN.out, if_pos this]
      clear dD
      go_wp2_with fail
      go_ret
      exact ⟨aI (by rw [HS.out]), bU.out⟩
    ·obtain rfl : k = names.length := by omega
     have hdup : rW names = false := any_none fun j hj => hno.out j hj
     have mU : Hid (aL t names = if (aV t.ns).length ≠ names.length ∨ nT t names = true then 9 else 0) := by unfold Hid; rw [jN.out, hdup, if_neg (by decide)]
     have hc1 := dM.out
     clear hno hk hlt hdup jN
     go_wp2_with fail
     go_loop [6, 7] (fun c i => ∃ k : Nat, k ≤ t.ns.length ∧ c = .int .i64 (gy t.ns k).length ∧ i = .int .i64 k ∧ Hid (∀ j, j < k → (gs t.ns j).size ≠ 0 → ¬ eR names (gs t.ns j) < 0)) (fun _ i => t.ns.length - (intOf i).toNat)
     case atStart => exact ⟨0, Nat.zero_le _, rfl, rfl, fun j hj => by omega⟩
     case round =>
      obtain ⟨k, hk, rfl, rfl, hno⟩ := hrel
      have hc1 := dM.out
      by_cases hlt : k < t.ns.length
      ·obtain ⟨b, off, rfl, hc⟩ := cC sV.out hlt
       have i1 : (0 : Int) ≤ (k : Int) := by omega
       have i2 : (k : Int) < (t.ns.length : Int) := by omega
       have i3 : (k : Int) < 64 := by have := xd.out; omega
       have dD := aa (ym T w2 _ names (gs t.ns k) K3.out iL.out.2)
       have hsu := wQ t.ns k
       have Dj := y8 t.ns k
       have i4 : ((gy t.ns k).length : Int) < 64 := by have := xd.out; omega
       have Dk := aa hsu
       have ow := aa hno.out
       have aM := aa hlt
       have hnil := toList_nil (gs t.ns k)
       clear hno hk hlt hsu Dj
       by_cases g0 : (gs t.ns k).size = 0
       ·have hg1 : (gs t.ns k).toList = [] := hnil.2 g0
        have jd : Hid ((gy t.ns (k + 1)).length = (gy t.ns k).length) := by unfold Hid; rw [Dk.out, if_pos g0, List.append_nil]
        have HG := aa g0
        clear g0 hnil
        go_wp2_with fail
        go_round
        case rel => exact ⟨k + 1, aM.out, by rw [jd.out], by go_num, fun j hj h0 => by
         by_cases x : j = k
         ·subst x; exact absurd HG.out h0
         ·exact ow.out j (by omega) h0⟩
        case measure => have := aM.out; simp [intOf]; omega
       ·have hg1 : ((gs t.ns k).toList == []) = false := by
         rw [Bool.eq_false_iff]; intro e; exact g0 (hnil.1 (by simpa using e))
        have jd : Hid (((gy t.ns (k + 1)).length : Int) = ((gy t.ns k).length : Int) + 1) := by unfold Hid; rw [Dk.out, if_neg g0, List.length_append, List.length_singleton]; omega
        have HG := aa g0
        clear g0 hnil
        by_cases e : eR names (gs t.ns k) < 0
        ·have KD : Hid (aL t names = 9) := by
          unfold Hid
          rw [mU.out, if_pos (.inr (Iw.2 ⟨k, aM.out, HG.out, e⟩))]
         go_wp2_with fail
         refine dD.out.mono ?_
         rintro e w3 ⟨rfl, rfl⟩
         clear dD
         go_wp2_with fail
         go_ret
         exact ⟨aI (by rw [KD.out]), bU.out⟩
        ·have HE := aa e
         go_wp2_with fail
         refine dD.out.mono ?_
         rintro e w3 ⟨rfl, rfl⟩
         clear dD
         go_wp2_with fail
         go_round
         case rel => exact ⟨k + 1, aM.out, by rw [jd.out], by go_num, fun j hj h0 => by
          by_cases x : j = k
          ·subst x; have := HE.out; omega
          ·have := ow.out j (by omega) h0; omega⟩
         case measure => have := aM.out; simp [intOf]; omega
      ·obtain rfl : k = t.ns.length := by omega
       have hoff : nT t names = false := by
        cases e : nT t names with
        | false => rfl
        | true =>
         obtain ⟨j, h1, h2, h3⟩ := Iw.1 e
         exact absurd h3 (hno.out j h1 h2)
       have Dj : (gy t.ns t.ns.length).length = (aV t.ns).length := rfl
       have KD : Hid (aL t names = if (aV t.ns).length ≠ names.length then 9 else 0) := by
        unfold Hid
        rw [mU.out, hoff]
        by_cases x : (aV t.ns).length ≠ names.length
        ·rw [if_pos x, if_pos (.inl x)]
        ·rw [if_neg x, if_neg (by rintro (h | h); exact x h; cases h)]
       clear hno hk hlt hoff
       rw [Dj]
       clear Dj
       by_cases x : (aV t.ns).length = names.length
       ·have t1 : (((aV t.ns).length : Int) != (names.length : Int)) = false := by rw [x]; simp
        have Qd : Hid (aL t names = 0) := by unfold Hid; rw [KD.out, if_neg (by simp [x])]
        have zg := aa x
        clear x
        go_wp2_with fail
        go_ret
        exact ⟨aI (by rw [Qd.out]), bU.out⟩
       ·have t1 : (((aV t.ns).length : Int) != (names.length : Int)) = true := bne_iff_ne.2 (by omega)
        have Qd : Hid (aL t names = 9) := by unfold Hid; rw [KD.out, if_pos x]
        go_wp2_with fail
        go_ret
        exact ⟨aI (by rw [Qd.out]), bU.out⟩
 ·have FW : (aB t != 0) = true := by simpa using he
  have jN : Hid (aL t names = 1) := by unfold Hid aL; rw [if_pos he]
  clear he
  generalize aB t = te at FW ⊢
  go_wp2_with fail
  go_ret
  exact ⟨aI (by rw [jN.out]), bU.out⟩
end
section
def iwO (s : List Int) : List (List Int) → List (List Int)
 | [] => [s]
 | b :: l => if cmpL b s < 0 then b :: iwO s l else if b = s then b :: l else s :: b :: l
def ng (s : List Int) : List (List Int) → Nat
 | [] => 0
 | b :: l => if cmpL b s < 0 then ng s l + 1 else 0
theorem Qe (s : List Int) : ∀ l, ng s l ≤ l.length
 | [] => Nat.le_refl _
 | b :: l => by
  have := Qe s l
  rw [ng, List.length_cons]
  split <;> omega
theorem Cn (s : List Int) : ∀ (l : List (List Int)) (j : Nat), j < ng s l → cmpL (gl l j) s < 0
 | [], j, h => by rw [ng] at h; omega
 | b :: l, j, h => by
  rw [ng] at h
  split at h
  ·rename_i hb
   cases j with
   | zero => exact hb
   | succ j => exact Cn s l j (by omega)
  ·omega
theorem Qf (s : List Int) : ∀ l : List (List Int), ng s l < l.length → ¬ cmpL (gl l (ng s l)) s < 0
 | [], h => by rw [List.length_nil] at h; omega
 | b :: l, h => by
  rw [ng] at h ⊢
  split
  ·rename_i hb
   rw [if_pos hb, List.length_cons] at h
   exact Qf s l (by omega)
  ·assumption
theorem Qg {s : List Int} {l : List (List Int)} {k : Nat} (h1 : k ≤ l.length) (h2 : ∀ j, j < k → cmpL (gl l j) s < 0) (h3 : k = l.length ∨ ¬ cmpL (gl l k) s < 0) : k = ng s l := by
 rcases Nat.lt_trichotomy k (ng s l) with h | h | h
 ·rcases h3 with h3 | h3
  ·have := Qe s l; omega
  ·exact absurd (Cn s l k h) h3
 ·exact h
 ·exact absurd (h2 _ h) (Qf s l (by omega))
theorem tC (s : List Int) : ∀ l : List (List Int), iwO s l = if ng s l < l.length ∧ gl l (ng s l) = s then l else l.take (ng s l) ++ s :: l.drop (ng s l)
 | [] => by rw [iwO, if_neg (fun h => by have := h.1; rw [List.length_nil] at this; omega)]; rfl
 | b :: l => by
  rw [iwO, ng]
  by_cases hb : cmpL b s < 0
  ·rw [if_pos hb, if_pos hb, tC s l, List.length_cons]
   have e : gl (b :: l) (ng s l + 1) = gl l (ng s l) := rfl
   rw [e]
   by_cases h : ng s l < l.length ∧ gl l (ng s l) = s
   ·rw [if_pos h, if_pos ⟨by omega, h.2⟩]
   ·rw [if_neg h, if_neg (fun q => h ⟨by omega, q.2⟩), List.take_succ_cons, List.drop_succ_cons]; rfl
  ·rw [if_neg hb, if_neg hb]
   by_cases h : b = s
   ·rw [if_pos h, if_pos ⟨by simp, h⟩]
   ·rw [if_neg h, if_neg (fun q => h q.2)]; rfl
theorem C6 {s x : List Int} : ∀ {l : List (List Int)}, x ∈ iwO s l ↔ x = s ∨ x ∈ l
 | [] => by rw [iwO]; simp
 | b :: l => by
  rw [iwO]
  split
  ·rw [List.mem_cons, C6, List.mem_cons]
   constructor
   ·rintro (h | h | h)
    ·exact .inr (.inl h)
    ·exact .inl h
    ·exact .inr (.inr h)
   ·rintro (h | h | h)
    ·exact .inr (.inl h)
    ·exact .inl h
    ·exact .inr (.inr h)
  ·split
   ·rename_i e
    subst e
    simp
   ·simp
theorem Co {s : List Int} : ∀ {l : List (List Int)}, l.Pairwise s8 → (iwO s l).Pairwise s8
 | [], _ => by rw [iwO]; exact List.pairwise_singleton _ _
 | b :: l, h => by
  obtain ⟨h1, h2⟩ := List.pairwise_cons.1 h
  rw [iwO]
  split
  ·rename_i hb
   refine List.pairwise_cons.2 ⟨fun x hx => ?_, Co h2⟩
   rcases C6.1 hx with rfl | hx
   ·exact hb
   ·exact h1 x hx
  ·split
   ·exact h
   ·rename_i hb hne
    have YF : s8 s b := by
     have h3 := jB b s
     have h4 : cmpL b s ≠ 0 := fun e => hne (iO e)
     show cmpL s b < 0
     omega
    refine List.pairwise_cons.2 ⟨fun x hx => ?_, h⟩
    rcases List.mem_cons.1 hx with rfl | hx
    ·exact YF
    ·exact nR YF (h1 x hx)
def owK (t : aA) (names : List ByteArray) : Nat → List (List Int)
 | 0 => []
 | k + 1 => if aF names.length (aU names.length (aN t names (k + 1))) = 0 then iwO (aU names.length (aN t names (k + 1))) (owK t names k) else owK t names k
theorem vK (t : aA) (names : List ByteArray) : ∀ k, (owK t names k).Pairwise s8
 | 0 => List.Pairwise.nil
 | k + 1 => by
  rw [owK]
  split
  ·exact Co (vK t names k)
  ·exact vK t names k
theorem yY {t : aA} {names : List ByteArray} {x : List Int} : ∀ {k : Nat}, x ∈ owK t names k ↔ ∃ j, 1 ≤ j ∧ j ≤ k ∧ aF names.length (aU names.length (aN t names j)) = 0 ∧ x = aU names.length (aN t names j)
 | 0 => ⟨fun h => (by cases h), fun ⟨j, h1, h2, _⟩ => by omega⟩
 | k + 1 => by
  rw [owK]
  split
  ·rename_i h0
   rw [C6, yY]
   constructor
   ·rintro (h | ⟨j, h1, h2, h3⟩)
    ·exact ⟨k + 1, by omega, Nat.le_refl _, h0, h⟩
    ·exact ⟨j, h1, by omega, h3⟩
   ·rintro ⟨j, h1, h2, h3, h4⟩
    by_cases e : j = k + 1
    ·subst e; exact .inl h4
    ·exact .inr ⟨j, h1, by omega, h3, h4⟩
  ·rename_i h0
   rw [yY]
   constructor
   ·rintro ⟨j, h1, h2, h3⟩
    exact ⟨j, h1, by omega, h3⟩
   ·rintro ⟨j, h1, h2, h3, h4⟩
    by_cases e : j = k + 1
    ·subst e; exact absurd h3 h0
    ·exact ⟨j, h1, by omega, h3, h4⟩
theorem C7 (t : aA) (names : List ByteArray) : ∀ k, (owK t names k).length ≤ k
 | 0 => Nat.le_refl _
 | k + 1 => by
  have ih := C7 t names k
  have hl : ∀ (s : List Int) (l : List (List Int)), (iwO s l).length ≤ l.length + 1 := fun s l => by
   rw [tC]
   split
   ·omega
   ·rw [List.length_append, List.length_cons, List.length_take, List.length_drop]; omega
  rw [owK]
  split
  ·have := hl (aU names.length (aN t names (k + 1))) (owK t names k); omega
  ·omega
theorem V4 {t : aA} {names : List ByteArray} (h : 0 < t.ps.length) : owK t names (t.ps.length - 1) = p9 (Al t names) := by
 refine CZ (vK _ _ _) (lU _) fun x => ?_
 rw [yY, rV]
 unfold Al
 rw [List.mem_filter, List.mem_map]
 constructor
 ·rintro ⟨j, h1, h2, h3, h4⟩
  refine ⟨⟨j, ?_, h4.symm⟩, by rw [h4]; simpa using h3⟩
  rw [List.mem_filter, List.mem_range]
  exact ⟨by omega, decide_eq_true (by omega)⟩
 ·rintro ⟨⟨j, h1, h2⟩, h3⟩
  rw [List.mem_filter, List.mem_range] at h1
  have h4 : 0 < j := by simpa using h1.2
  exact ⟨j, by omega, by omega, by rw [h2]; simpa using h3, h2.symm⟩
end
end Go.Proofs.YtpnmblnahjjmhaaGreat
