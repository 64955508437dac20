/- optimaltree.Bound. Reference 34: Great, GreatTrees. -/
import Derived.Test.YteegefnjnikngaaGreatQ1
import Derived.Test.YteegefnjnikngaaGreatQ46
import Derived.Test.YteegefnjnikngaaGreatQ47
import Derived.Test.YteegefnjnikngaaGreatQ12
import Derived.Test.YteegefnjnikngaaGreatQ43
import Derived.Test.YteegefnjnikngaaGreatQ44
import Derived.Test.YteegefnjnikngaaGreatQ8
set_option maxRecDepth 100000
namespace Go.Proofs.YteegefnjnikngaaGreat
section
open Go.RowKit Go.Deep
theorem Js (xs : List Int) : (Lib.compact (gM xs)).length ≤ xs.length := by
 rw [Cb]
 exact (kC xs).length_le_of_subset fun x hx => jt.1 hx
def r6 (w : World) (states : List (List Int)) (e : Ending) (w' : World) : Prop := e = .returned (.tuple #[.int .i64 (Ah states), .int .i64 (Ag states)]) ∧ Up w w'
set_option maxHeartbeats 4000000 in
theorem Cf (S : Nat → Prop) (w : World) (vs : Value) (states : List (List Int)) (hS : aX S w vs states) (kX : states.length ≤ 1000000) (hr : ∀ k, (gl states k).length ≤ 1000000) :
  Calls Tryz.prog 20 #[vs] w (r6 w states) := by
 have rS := aa (AL S w vs states hS kX hr)
 obtain ⟨sp, sc, rfl, -, -⟩ := eD hS
 have HS := aa hS
 have HE : Hid (Ag states = if bU states = 0 then 0 else 1) := rfl
 have HR : Hid (Ah states = if bU states = 0 then vz states else 0) := rfl
 have Mi : Hid (bU states = 0 → 0 < states.length ∧ states.length ≤ 32 ∧ (gl states 0).length ≤ 4096 ∧ ∀ k, k < states.length → (gl states k).length = (gl states 0).length) := fun h => by
  obtain ⟨a1, a2⟩ := Cu h
  obtain ⟨a3, a4⟩ := zo h
  exact ⟨a1, a3, a4, fun k hk => (a2 k hk).1⟩
 clear hS kX hr
 go_enter Tryz.func20, Tryz.ntmps20
 go_wp2_with fail
 refine rS.out.mono ?_
 rintro e w1 ⟨rfl, hq⟩
 have bF : Hid (Up w w1) := hq ▸ Up.refl _
 by_cases c1 : bU states = 0
 ·obtain ⟨a0, a1, a2, a3⟩ := Mi.out c1
  have HA := aa (And.intro a0 (And.intro a1 (And.intro a2 a3)))
  have dS : Hid (∀ W, Up w W → r6 w states (.returned (.tuple #[.int .i64 (vz states), .int .i64 0])) W) := fun W hW => ⟨by rw [HE.out, HR.out, if_pos c1, if_pos c1], hW⟩
  have jY := aa (aX.keep HS.out (bF.out.kept S))
  obtain ⟨sb, so, s0, s1, rfl, hc0, iq⟩ := fA jY.out a0
  rw [Nat.add_zero] at hc0
  have i1 : (0 : Int) < (states.length : Int) := by omega
  rw [c1]
  clear rS HE HR Mi hq c1 a0 a1 a2 a3 iq
  have Wb : Hid (∀ n, 0 ≤ bw (eX states) n ∧ bw (eX states) n ≤ 100000 * n) := fun n => rX fun p _ => by have h1 := vW states p; have := HA.out.2.1; omega
  have eO : Hid (∀ n, bw (eX states) (n + 1) = bw (eX states) n + eX states n) := fun n => rfl
  have kI : Hid (vz states = bw (eX states) (gl states 0).length) := rfl
  go_wp2_with fail
  go_loopw [4, 5, 6, 8, 16, 21] (fun s _ _ _ i _ wr => ∃ n : Nat, n ≤ (gl states 0).length ∧ i = .int .i64 n ∧ s = .int .i64 (bw (eX states) n) ∧ Hid (Up w1 wr)) (fun _ _ _ _ i _ _ => (gl states 0).length - (intOf i).toNat)
  case atStart => exact ⟨0, Nat.zero_le _, rfl, rfl, Up.refl _⟩
  case round =>
   obtain ⟨n, hn, rfl, rfl, hU⟩ := hrel
   obtain ⟨wo, rfl⟩ : ∃ wo : World, wo = wr := ⟨_, rfl⟩
   by_cases hlt : n < (gl states 0).length
   ·have i2 : (n : Int) < ((gl states 0).length : Int) := by omega
    have i3 : (n : Int) < 4096 := by have := HA.out.2.2.1; omega
    have i4 : (0 : Int) ≤ (n : Int) := by omega
    have aQ := aa hlt
    have Hl := aa (And.intro (Wb.out n) (vW states n))
    have p9 := aa hU.out
    generalize kX : bw (eX states) n = fn at *
    have ux := aa kX
    clear hlt hU kX
    go_wp2_with fail
    go_loopw [6, 8, 21] (fun l _ k wr => ∃ j : Nat, j ≤ states.length ∧ k = .int .i64 j ∧ Hid (az wo.heap.size 3 wr l ((aV ((bh states n).take j)).map (Value.int .i64))) ∧ Hid (Up wo wr)) (fun _ _ k _ => states.length - (intOf k).toNat)
    case atStart => exact ⟨0, Nat.zero_le _, rfl, az.nil _ _ _, Up.refl _⟩
    case round =>
     obtain ⟨j, hj, rfl, hA, en⟩ := hrel
     obtain ⟨wi, rfl⟩ : ∃ wi : World, wi = wr := ⟨_, rfl⟩
     by_cases hlj : j < states.length
     ·obtain ⟨rb, ro, r0, r1, er, LV, hir⟩ := fA (aX.keep jY.out ((p9.out.trans en.out).kept S)) hlj
      injection er with er
      injection er with LW LX
      subst LW; subst LX
      rw [HA.out.2.2.2 j hlj] at LV
      obtain ⟨yb, yo, rfl, hcy⟩ := dQ hir (k := n) (by rw [HA.out.2.2.2 j hlj]; exact aQ.out)
      have fH := aa (wZ (st := bh states n) (k := j) (by rw [mF]; exact hlj))
      rw [zg _ _ hlj] at fH
      have eF := Cc (bh states n) j
      have hsz := en.out.size
      have nJ := aa hlj
      have k1 : (0 : Int) ≤ (j : Int) := by omega
      have k2 : (j : Int) < (states.length : Int) := by omega
      have k3 : (j : Int) < 64 := by have := HA.out.2.1; omega
      generalize gi (gl states j) n = y at *
      clear hir hlj
      by_cases h0 : 0 ≤ y
      ·have dW : Hid (((aV ((bh states n).take j)).map (Value.int .i64)).length = (aV ((bh states n).take j)).length) := by unfold Hid; rw [List.length_map]
       have wX : Hid (aV ((bh states n).take (j + 1)) = aV ((bh states n).take j) ++ [y]) := by unfold Hid; rw [fH.out, if_pos h0]
       have d0 : decide (0 ≤ y) = true := by simp [h0]
       generalize hm : (aV ((bh states n).take j)).length = m at *
       go_wp2_with (at_builtin; refine qN wi rfl _ _ 26 rfl wo.heap.size 3 _ 8 Tryz.underlying26 Tryz.jx rfl (by decide) hA.out rfl _ rfl rfl m dW.out (by omega) hsz ?_; intro g cap w8 hown1 hg1 lu)
       have HO2 : Hid (az wo.heap.size 3 w8 (.slice (some ⟨g, 0, none⟩) (m + 1) cap) ((aV ((bh states n).take (j + 1))).map (Value.int .i64))) := by unfold Hid; rw [wX.out, List.map_append]; exact hown1
       have mZ : Hid (Up wo w8) := Below.trans en.out lu
       clear hown1 hg1 lu
       go_roundw
       case rel => exact ⟨j + 1, nJ.out, by go_num, HO2, mZ⟩
       case measure => have := nJ.out; simp [intOf]; omega
      ·have d0 : decide (0 ≤ y) = false := by simp; omega
       have wX : Hid (aV ((bh states n).take (j + 1)) = aV ((bh states n).take j)) := by unfold Hid; rw [fH.out, if_neg h0, List.append_nil]
       clear h0
       go_wp2_with fail
       go_roundw
       case rel => exact ⟨j + 1, nJ.out, by go_num, by rw [wX.out]; exact hA, en⟩
       case measure => have := nJ.out; simp [intOf]; omega
     ·obtain rfl : j = states.length := by omega
      have Ho : (bh states n).take states.length = bh states n := by rw [← mF states n, List.take_length]
      rw [Ho] at hA
      obtain ⟨kp, kc, rfl, _⟩ := hA.out.form (n := (aV (bh states n)).length) (by rw [List.length_map])
      have eF : (aV (bh states n)).length ≤ states.length := by rw [← mF states n]; exact List.length_filter_le _ _
      have fT : Hid ((aV (bh states n)).length ≤ 32) := Nat.le_trans eF HA.out.2.1
      have uC := aa (Uo wo wi _ (aV (bh states n)) en.out hA.out (by have := fT.out; omega))
      have r4 : Hid (eX states n = if (dd (aV (bh states n))).length = 0 then 0 else ((dd (aV (bh states n))).length : Int) - 1) := rfl
      rw [← Cb] at r4
      clear Ho hA en eF hj
      go_wp2_with fail
      refine uC.out.mono ?_
      rintro e w7 ⟨rfl, Hi, ho7⟩
      have Di := aa (Mb wo w7 _ (gM (aV (bh states n))) Hi ho7 (by rw [uM]; have := fT.out; omega))
      have G8 : Hid ((Lib.compact (gM (aV (bh states n)))).length ≤ 32) := Nat.le_trans (Js _) fT.out
      clear Hi ho7 uC
      go_wp2_with fail
      refine Di.out.mono ?_
      rintro e w8 ⟨⟨p8, c8, rfl⟩, mW⟩
      have mZ := aa (p9.out.trans mW)
      have vp := aa (eO.out n)
      rw [ux.out, r4.out] at vp
      have DG := Hl.out
      have hcl := G8.out
      clear mW Di r4 G8
      generalize eX states n = bk at *
      generalize (Lib.compact (gM (aV (bh states n)))).length = D at *
      have i6 : fn ≤ 409600000 ∧ 0 ≤ fn := by constructor <;> omega
      obtain ⟨i7, i8⟩ := i6
      clear DG
      go_wp2_with fail
      go_roundw
      case rel => exact ⟨n + 1, aQ.out, by go_num, by rw [vp.out]; congr 1; omega, mZ.out⟩
      case measure => have := aQ.out; simp [intOf]; omega
   ·obtain rfl : n = (gl states 0).length := by omega
    have ng := aa (dS.out wo (bF.out.trans hU.out))
    rw [kI.out] at ng
    clear hlt
    go_wp2_with fail
    go_ret2
    exact ng.out
 ·have dS : Hid (r6 w states (.returned (.tuple #[.int .i64 0, .int .i64 1])) w1) := ⟨by rw [HE.out, HR.out, if_neg c1, if_neg c1], bF.out⟩
  generalize bU states = a at *
  clear hq rS
  go_wp2_with fail
  go_ret2
  exact dS.out
end
section
open Go.RowKit Go.Deep
def Mj (names : List ByteArray) : Bool := (List.range names.length).any fun i => decide (20 < (gs names i).size)
def tS (n : Nat) : Bool := (decide (6 < n) && decide (n ≤ 4096)) || decide (4098 < n)
def Mk (states : List (List Int)) : Bool := (List.range states.length).any fun i => tS (gl states i).length
def vX (n m : Nat) : Bool := (decide (5 < n) && decide (n ≤ 7)) || decide (10 < n) || decide (10 < m)
def jQ (names : List ByteArray) (states : List (List Int)) : Bool := Mj names || Mk states || vX names.length states.length
structure Jt (names : List ByteArray) (states : List (List Int)) : Prop where
 nm : ∀ k, (gs names k).size ≤ 20
 row : ∀ k, (gl states k).length ≤ 6 ∨ (4096 < (gl states k).length ∧ (gl states k).length ≤ 4098)
 n5 : names.length ≤ 5 ∨ (7 < names.length ∧ names.length ≤ 10)
 m10 : states.length ≤ 10
theorem RM {names : List ByteArray} {states : List (List Int)} (h : jQ names states = false) : Jt names states := by
 unfold jQ at h
 rw [Bool.or_eq_false_iff, Bool.or_eq_false_iff] at h
 obtain ⟨⟨h1, h2⟩, h3⟩ := h
 refine ⟨fun k => ?_, fun k => ?_, ?_, ?_⟩
 ·by_cases hk : k < names.length
  ·have := of_decide_eq_false (any_false h1 hk)
   omega
  ·have : gs names k = ByteArray.empty := by simp [gs, hk]
   rw [this]; exact Nat.zero_le _
 ·by_cases hk : k < states.length
  ·have := any_false h2 hk
   unfold tS at this
   simp at this
   omega
  ·have : gl states k = [] := by simp [gl, hk]
   rw [this]; exact .inl (Nat.zero_le _)
 ·unfold vX at h3
  simp at h3
  omega
 ·unfold vX at h3
  simp at h3
  omega
theorem Jt.Fv {names : List ByteArray} {states : List (List Int)} (h : Jt names states) : names.length ≤ 10 ∧ (∀ k, (gl states k).length ≤ 4098) ∧ (names.length ≤ 5 ∨ 7 < names.length) := by
 have h1 := h.n5
 refine ⟨by omega, fun k => ?_, by omega⟩
 have := h.row k
 omega
set_option maxHeartbeats 2000000 in
theorem Ml (S T : Nat → Prop) (w : World) (v vs : Value) (names : List ByteArray) (states : List (List Int)) (h : au S w v names) (hS : aX T w vs states) (hn : names.length ≤ 9223372036854775807) (hz : ∀ k, (gs names k).size ≤ 9223372036854775807) (hm : states.length ≤ 9223372036854775807) (hr : ∀ k, (gl states k).length ≤ 9223372036854775807) :
  Calls Tryz.prog 27 #[v, vs] w fun e w' => e = .returned (.bool (jQ names states)) ∧ w = w' := by
 obtain ⟨p, cap, rfl, hcap, -⟩ := aA.open h
 have h : au S w (.slice p names.length cap) names := h
 obtain ⟨sp, sc, rfl, -, -⟩ := eD hS
 have HG : Hid (jQ names states = (Mj names || Mk states || vX names.length states.length)) := rfl
 have Wc : Hid (Mj names = (List.range names.length).any fun i => decide (20 < (gs names i).size)) := rfl
 have DM : Hid (Mk states = (List.range states.length).any fun i => tS (gl states i).length) := rfl
 have HN := aa h
 have HS := aa hS
 have HZ := aa hz
 have HR := aa hr
 clear h hS hz hr
 go_enter Tryz.func27, Tryz.ntmps27
 go_wp2_with fail
 go_loop [5] (fun i => ∃ k : Nat, k ≤ names.length ∧ i = .int .i64 k ∧ Hid (∀ j, j < k → decide (20 < (gs names j).size) = false)) (fun i => names.length - (intOf i).toNat)
 case atStart => exact ⟨0, Nat.zero_le _, rfl, fun j hj => absurd hj (Nat.not_lt_zero _)⟩
 case round =>
  obtain ⟨k, hk, rfl, hd⟩ := hrel
  by_cases hlt : k < names.length
  ·obtain ⟨b, off, rfl, hc⟩ := bQ HN.out hlt
   have qF : Hid (20 < (gs names k).size → Mj names = true) := fun h1 => by rw [Wc.out]; exact qY hlt (decide_eq_true h1)
   have HX : Hid (¬ 20 < (gs names k).size → ∀ j, j < k + 1 → decide (20 < (gs names j).size) = false) := fun h1 j hj => if e : j = k then by subst e; exact decide_eq_false h1 else hd.out j (by omega)
   have hsz := HZ.out k
   generalize gs names k = nm at *
   by_cases h20 : 20 < nm.size
   ·have HF : Hid (jQ names states = true) := by unfold Hid; rw [HG.out, qF.out h20]; rfl
    go_wp2_with fail
    go_ret
    exact ⟨bB HF.out.symm, rfl⟩
   ·have rN := aa (HX.out h20)
    go_wp2_with fail
    go_round
    case rel => exact ⟨k + 1, by omega, by go_num, rN.out⟩
    case measure => simp [intOf]; omega
  ·obtain rfl : k = names.length := by omega
   have HNF : Hid (Mj names = false) := by unfold Hid; rw [Wc.out]; exact any_none hd.out
   clear hd hlt hk
   go_wp2_with fail
   go_loop [6, 7] (fun i _ => ∃ k : Nat, k ≤ states.length ∧ i = .int .i64 k ∧ Hid (∀ j, j < k → tS (gl states j).length = false)) (fun i _ => states.length - (intOf i).toNat)
   case atStart => exact ⟨0, Nat.zero_le _, rfl, fun j hj => absurd hj (Nat.not_lt_zero _)⟩
   case round =>
    obtain ⟨k, hk, rfl, hd⟩ := hrel
    by_cases hlt : k < states.length
    ·obtain ⟨b, off, r0, r1, rfl, hc, -⟩ := fA HS.out hlt
     have qF : Hid (tS (gl states k).length = true → Mk states = true) := fun h1 => by rw [DM.out]; exact qY hlt h1
     have HX : Hid (tS (gl states k).length = false → ∀ j, j < k + 1 → tS (gl states j).length = false) := fun h1 j hj => if e : j = k then by subst e; exact h1 else hd.out j (by omega)
     have hsz := HR.out k
     have GM : Hid (tS (gl states k).length = ((decide (6 < (gl states k).length) && decide ((gl states k).length ≤ 4096)) || decide (4098 < (gl states k).length))) := rfl
     generalize (gl states k).length = m at *
     have key : (6 < m ∧ m ≤ 4096 ∧ tS m = true) ∨ (6 < m ∧ 4096 < m ∧ 4098 < m ∧ tS m = true) ∨ (6 < m ∧ 4096 < m ∧ m ≤ 4098 ∧ tS m = false) ∨ (m ≤ 6 ∧ tS m = false) := by
      rw [GM.out]
      by_cases q1 : 6 < m <;> by_cases q2 : m ≤ 4096 <;> by_cases q3 : 4098 < m <;> simp [q1, q2, q3] <;> omega
     rcases key with ⟨q1, q2, q⟩ | ⟨q1, q2, q3, q⟩ | ⟨q1, q2, q3, q⟩ | ⟨q1, q⟩
     ·have HF : Hid (jQ names states = true) := by unfold Hid; rw [HG.out, qF.out q]; simp
      have d1 : decide (6 < (m : Int)) = true := by simp; omega
      have d2 : decide ((m : Int) ≤ 4096) = true := by simp; omega
      clear qF HX GM q
      go_wp2_with fail
      all_goals (go_ret; exact ⟨bB HF.out.symm, rfl⟩)
     ·have HF : Hid (jQ names states = true) := by unfold Hid; rw [HG.out, qF.out q]; simp
      have d1 : decide (6 < (m : Int)) = true := by simp; omega
      have d2 : decide ((m : Int) ≤ 4096) = false := by simp; omega
      have d3 : decide (4098 < (m : Int)) = true := by simp; omega
      clear qF HX GM q
      go_wp2_with fail
      all_goals (go_ret; exact ⟨bB HF.out.symm, rfl⟩)
     ·have rN := aa (HX.out q)
      have d1 : decide (6 < (m : Int)) = true := by simp; omega
      have d2 : decide ((m : Int) ≤ 4096) = false := by simp; omega
      have d3 : decide (4098 < (m : Int)) = false := by simp; omega
      clear qF HX GM q
      go_wp2_with fail
      go_round
      case rel => exact ⟨k + 1, by omega, by go_num, rN.out⟩
      case measure => simp [intOf]; omega
     ·have rN := aa (HX.out q)
      have d1 : decide (6 < (m : Int)) = false := by simp; omega
      have d3 : decide (4098 < (m : Int)) = false := by simp; omega
      clear qF HX GM q
      go_wp2_with fail
      go_round
      case rel => exact ⟨k + 1, by omega, by go_num, rN.out⟩
      case measure => simp [intOf]; omega
    ·obtain rfl : k = states.length := by omega
     have Fa : Hid (Mk states = false) := by unfold Hid; rw [DM.out]; exact any_none hd.out
     have HF : Hid (jQ names states = vX names.length states.length) := by unfold Hid; rw [HG.out, HNF.out, Fa.out]; simp
     have HT : Hid (vX names.length states.length = ((decide (5 < names.length) && decide (names.length ≤ 7)) || decide (10 < names.length) || decide (10 < states.length))) := rfl
     clear hd hlt hk HG Wc DM HNF Fa HN HS HZ HR
     generalize names.length = n at *
     generalize states.length = m at *
     by_cases q1 : 5 < n
     ·by_cases q2 : n ≤ 7
      ·have HB : Hid (jQ names states = true) := by unfold Hid; rw [HF.out, HT.out]; simp [q1, q2]
       go_wp2_with fail
       all_goals (go_ret; refine ⟨bB ?_, rfl⟩; first | (rw [HB.out]; done) | (rw [HB.out]; simp; done) | (rw [HB.out]; simp; omega))
      ·by_cases q3 : 10 < n
       ·have HB : Hid (jQ names states = true) := by unfold Hid; rw [HF.out, HT.out]; simp [q3]
        go_wp2_with fail
        all_goals (go_ret; refine ⟨bB ?_, rfl⟩; first | (rw [HB.out]; done) | (rw [HB.out]; simp; done) | (rw [HB.out]; simp; omega))
       ·by_cases q4 : 10 < m
        ·have HB : Hid (jQ names states = true) := by unfold Hid; rw [HF.out, HT.out]; simp [q4]
         go_wp2_with fail
         all_goals (go_ret; refine ⟨bB ?_, rfl⟩; first | (rw [HB.out]; done) | (rw [HB.out]; simp; done) | (rw [HB.out]; simp; omega))
        ·have HB : Hid (jQ names states = false) := by unfold Hid; rw [HF.out, HT.out]; simp [q2, q3, q4]
         go_wp2_with fail
         all_goals (go_ret; refine ⟨bB ?_, rfl⟩; first | (rw [HB.out]; done) | (rw [HB.out]; simp; done) | (rw [HB.out]; simp; omega))
     ·have q3 : ¬ 10 < n := by omega
      by_cases q4 : 10 < m
      ·have HB : Hid (jQ names states = true) := by unfold Hid; rw [HF.out, HT.out]; simp [q4]
       go_wp2_with fail
       all_goals (go_ret; refine ⟨bB ?_, rfl⟩; first | (rw [HB.out]; done) | (rw [HB.out]; simp; done) | (rw [HB.out]; simp; omega))
      ·have HB : Hid (jQ names states = false) := by unfold Hid; rw [HF.out, HT.out]; simp [q1, q3, q4]
       go_wp2_with fail
       all_goals (go_ret; refine ⟨bB ?_, rfl⟩; first | (rw [HB.out]; done) | (rw [HB.out]; simp; done) | (rw [HB.out]; simp; omega))
end
end Go.Proofs.YteegefnjnikngaaGreat
