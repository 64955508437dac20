/- The walk of optimaltree.entries. The contract of layer 32's reference's named. The .. -/
import Derived.Test.YteegefnjnikngaaGreatQ1
import Derived.Test.YteegefnjnikngaaGreatQ41
import Derived.Test.YteegefnjnikngaaGreatQ22
import Derived.Test.YteegefnjnikngaaGreatQ25
import Derived.Test.YteegefnjnikngaaGreatQ31
set_option maxRecDepth 100000
namespace Go.Proofs.YteegefnjnikngaaGreat
section
open Go.RowKit Go.Deep
theorem Tryz.Rn : (Tryz.prog.info? 99).map (fun i => (i.zero, i.size, i.bytes)) = some (some (.agg #[.slice none 0 0, .slice none 0 0, .string ⟨#[]⟩]), 3, 64) := by kernel_rfl
def Z1 (w : World) (names : List ByteArray) (n : Nat) (out : Value) (wr : World) : Prop := Up w wr ∧ ∃ es : List jZ, gp w.heap.size wr out es ∧ es.map (·.2) = ((iO names.tail).take n).map (uR names)
theorem gp.form {base : Nat} {w : World} {v : Value} {es : List jZ} (h : gp base w v es) : ∃ p c, v = .slice p es.length c := by
 rcases h.1.2 with ⟨e, h0⟩ | ⟨g, cap, cur, e, _⟩
 ·exact ⟨none, 0, by rw [e, h0]⟩
 ·exact ⟨_, _, e⟩
theorem G1 {R : List (BT ByteArray)} {n : Nat} (h : n < R.length) : R.take (n + 1) = R.take n ++ [gB R n] := by
 rw [List.take_succ_eq_append_getElem h]; simp [gB, h]
set_option maxHeartbeats 8000000 in
theorem B3 (S : Nat → Prop) (w : World) (v : Value) (names : List ByteArray) (hok : fQ names) (h : au S w v names) : Calls Tryz.prog 73 #[v] w (EZ w names) := by
 have hlo := hok.lo
 have hhi := hok.hi
 obtain ⟨p, cap, rfl, hcap, -⟩ := aA.open h
 have h : au S w (.slice p names.length cap) names := h
 obtain ⟨nb, no, rfl, hc0⟩ := bQ h (k := 0) (by omega)
 rw [Nat.add_zero] at hc0
 have hz : ∀ x ∈ names, x.size ≤ 20 := fun x hx => rT (hok.nm x hx)
 have LP := aa (Om names.tail.length names.tail (Nat.le_refl _) (by rw [List.length_tail]; omega) (by rw [List.length_tail]; omega) (fun x hx => hz x (List.mem_of_mem_tail hx)) S w _ (B1 h hlo))
 have tu := aa hok
 have dR := aa hc0
 have qx : Hid (names.tail.length ≤ 4 ∧ 1 ≤ names.tail.length) := by unfold Hid; rw [List.length_tail]; omega
 have Z2 : (gs names 0).size ≤ 20 := gZ hz 0
 have VB := aa Z2
 have VC : Hid (∀ k, (gs (bg names.tail) k).size ≤ 100) := gZ fun x hx => s8 qx.out.1 (fun x hx => hz x (List.mem_of_mem_tail hx)) hx
 have lV : Hid ((bg names.tail).length = (iO names.tail).length ∧ (bg names.tail).length ≤ 15 ∧ 1 ≤ (bg names.tail).length) := ⟨by unfold bg; rw [List.length_map], oh qx.out.1, Re qx.out.1 qx.out.2⟩
 have i0 : ¬ cap = 1 := by omega
 have i1 : (1 : Int) ≤ (names.length : Int) := by omega
 have i2 : 1 ≤ names.length := by omega
 clear h hc0 hz hok hhi Z2
 go_enter Tryz.func73, Tryz.ntmps73
 go_wp2_with fail
 refine LP.out.mono ?_
 rintro e w1 ⟨aS, tv, rfl, E2⟩
 obtain ⟨tp, tc, rfl, -, -⟩ := aA.open E2
 have VD : Hid (au (fun b => S b ∨ w.heap.size ≤ b) w1 (.slice tp (bg names.tail).length tc) (bg names.tail)) := E2
 have bF := aa aS
 have vq : Hid (Z1 w1 names 0 (.slice none 0 0) w1) := ⟨Up.refl _, [], gp.nil _ _, by simp⟩
 clear aS E2 LP
 go_wp2_with fail
 go_loopw [4, 6, 7, 8, 9, 14] (fun out _ _ _ _ i wr => ∃ n : Nat, n ≤ (bg names.tail).length ∧ i = .int .i64 n ∧ Hid (Z1 w1 names n out wr)) (fun _ _ _ _ _ i _ => (bg names.tail).length - (intOf i).toNat)
 case atStart => exact ⟨0, Nat.zero_le _, rfl, vq.out⟩
 case round =>
  obtain ⟨n, hn, rfl, hI⟩ := hrel
  obtain ⟨wo, rfl⟩ : ∃ wo : World, wo = wr := ⟨_, rfl⟩
  obtain ⟨eM, es, hes, hem⟩ := hI.out
  have i3 : (0 : Int) ≤ (n : Int) := by omega
  by_cases hlt : n < (bg names.tail).length
  ·obtain ⟨tb, to', rfl, hct⟩ := bQ (au.keep VD.out (eM.kept _)) hlt
   have hnl : n < (iO names.tail).length := by rw [← lV.out.1]; exact hlt
   obtain ⟨g1, g2⟩ := Vz hnl
   have B4 := ZZ tu.out g2
   have hen : es.length = n := by
    have := congrArg List.length hem
    rw [List.length_map, List.length_map, List.length_take] at this
    omega
   have fH : Hid (((iO names.tail).take (n + 1)).map (uR names) = es.map (·.2) ++ [uR names (gB (iO names.tail) n)]) := by
    unfold Hid; rw [G1 hnl, List.map_append, hem]; rfl
   have z1 := VB.out
   have z2 : (gs (bg names.tail) n).size ≤ 100 := VC.out n
   rw [g1] at hct z2
   have vt : Hid (∀ W, Calls Tryz.prog 131 #[.string (kR names (gK (gB (iO names.tail) n)))] W (uV W (kR names (gK (gB (iO names.tail) n))))) := fun W => Q8 W _ B4.Vy (Xy _ B4.Vy)
   unfold kR at vt
   have iw := aa B4
   have qD := aa hes
   have rV := aa hen
   have aQ := aa hlt
   have B5 := aa eM
   have dr := (bF.out.trans eM).cell dR.out
   have i4 : (n : Int) < ((bg names.tail).length : Int) := by omega
   have i5 : (n : Int) < 16 := by have := lV.out.2.1; omega
   clear hI B4 hes hen hem eM hlt hnl g1 g2
   generalize gB (iO names.tail) n = r at *
   go_wp2_with fail
   refine (vt.out wo).mono ?_
   rintro e w2 ⟨aF, pv, rfl, hpv⟩
   have hpe : qu (kR names (gK r)) = 0 := by unfold qu; rw [iw.out.Jj]; exact iw.out.te
   have hpt : nI (kR names (gK r)) = flat (btR (uB names r)) := by unfold nI; rw [iw.out.Jj]; simp [iw.out.te]
   unfold kR at hpe hpt
   rw [hpe]
   have hpv : ay Any w2 pv (flat (btR (uB names r))) := by have h := hpv; unfold kR at h; rw [hpt] at h; exact h
   obtain ⟨q0, tM⟩ : ∃ q0, q0 = flat (btR (uB names r)) := ⟨_, rfl⟩
   obtain ⟨q1, hq1⟩ : ∃ q1, q1 = flat (uR names r) := ⟨_, rfl⟩
   rw [← tM] at hpv
   obtain ⟨P2, N2, rfl, gh, gj⟩ := hpv
   obtain ⟨pp, pc, rfl, -, -⟩ := aA.open gh
   obtain ⟨np, nc, rfl, -, -⟩ := aA.open gj
   have gh : ax Any w2 (.slice pp q0.ps.length pc) q0.ps := gh
   have gj : au Any w2 (.slice np q0.ns.length nc) q0.ns := gj
   have aZ := Up.alloc w2 (.cells #[.slice pp q0.ps.length pc, .slice np q0.ns.length nc] 39)
   have hb3 := fW (w := w2) (P := .slice pp q0.ps.length pc) (N := .slice np q0.ns.length nc) (T := 39)
   have hs3 : (w2.alloc (.cells #[.slice pp q0.ps.length pc, .slice np q0.ns.length nc] 39)).heap.size = w2.heap.size + 1 := World.size_alloc _ _
   have hl0 : q0.ps.length ≤ 1000000 ∧ q0.ns.length ≤ 1000000 := by have := iw.out.len; rw [tM, kM, oa]; omega
   have gF : q1.ps.length ≤ 1000000 ∧ q1.ns.length ≤ 1000000 := by have := iw.out.len; rw [hq1, kM, oa]; omega
   have A2 := aa (Dt Any (w2.alloc (.cells #[.slice pp q0.ps.length pc, .slice np q0.ns.length nc] 39)) _ q0 (ay.keep ⟨_, _, rfl, gh, gj⟩ (aZ.kept _)) hl0.1 hl0.2 (by rw [tM]; exact iw.out.sz))
   have G2 : Hid (aB q0 = 0 ∧ nu q0 = q1) := by unfold Hid; rw [tM, hq1]; exact ⟨iw.out.te, iw.out.can⟩
   have jc : Hid (tF q1 = 0 ∧ (⟨(qq q1).toArray⟩ : ByteArray) = aO (uR names r)) := by
    unfold Hid
    rw [hq1]
    refine ⟨by unfold tF; rw [if_neg (by simp [iw.out.ZX])], ?_⟩
    unfold aO; rw [iw.out.tx]
   have tG : Hid (∀ W v, ay Any W v q1 → Calls Tryz.prog 36 #[v] W (yV W q1)) := fun W v h => Q6 Any W v q1 h gF.1 gF.2 (by rw [hq1]; exact iw.out.ZY)
   have dL := aa (aF.trans aZ)
   have wW := aa hb3
   have G0 := aa hs3
   have uC : Hid (wo.heap.size ≤ w2.heap.size) := aF.size
   have HQ1 := aa hq1
   obtain ⟨b0, b1, b2, b3⟩ := boxed hb3
   clear hpe hpt gh gj aZ hb3 hs3 hl0 gF aF tM hq1 dr hct vt z1 z2
   go_wp2_with fail
   generalize w2.alloc (.cells #[.slice pp q0.ps.length pc, .slice np q0.ns.length nc] 39) = w3 at *
   refine A2.out.mono ?_
   rintro e w4 ⟨b6, ⟨kV, -⟩ | ⟨-, cv, rfl, P4, N4, rfl, dD, dF⟩⟩
   ·exact absurd G2.out.1 kV
   rw [G2.out.2] at dD dF
   obtain ⟨p4, c4, rfl, -, -⟩ := aA.open dD
   obtain ⟨n4, d4, rfl, -, -⟩ := aA.open dF
   have hb4 := (Below.block b6 w2.heap.size (by rw [G0.out]; omega)).trans wW.out
   have UG := aa hb4
   have jV := aa (dL.out.trans b6)
   have yC : Hid (ax (fun b => w3.heap.size ≤ b) w4 (.slice p4 q1.ps.length c4) q1.ps ∧ au (fun b => w3.heap.size ≤ b) w4 (.slice n4 q1.ns.length d4) q1.ns) := ⟨dD, dF⟩
   obtain ⟨b0, b1, b2, b3⟩ := boxed hb4
   clear hb4 b6 dD dF A2
   have HST := aa (dg (w := wo) (p := .slice p4 q1.ps.length c4) (q := .slice n4 q1.ns.length d4) UG.out uC.out jV.out)
   go_wp2_with fail
   obtain ⟨u5, s0, s1, s2⟩ := HST.out
   have AB : ay (fun b => w3.heap.size ≤ b) ((w4.setCell ⟨w2.heap.size, 0, none⟩ (.slice p4 q1.ps.length c4)).setCell ⟨w2.heap.size, 1, none⟩ (.slice n4 q1.ns.length d4)) (.agg #[.slice p4 q1.ps.length c4, .slice n4 q1.ns.length d4]) q1 :=
    ⟨_, _, rfl, ax.keep yC.out.1 fun b hb _ => s2 b (by have := G0.out; omega), au.keep yC.out.2 fun b hb _ => s2 b (by have := G0.out; omega)⟩
   have pI := aa AB
   have jq := aa u5
   have Z3 := aa (And.intro s0 s1)
   clear AB u5 s0 s1 s2 HST yC b0 b1 b2 b3
   generalize (w4.setCell ⟨w2.heap.size, 0, none⟩ _).setCell ⟨w2.heap.size, 1, none⟩ _ = w5 at *
   refine (tG.out w5 _ (pI.out.sub fun _ _ _ => trivial)).mono ?_
   rintro e w6 ⟨dz, rfl⟩
   rw [jc.out.1, jc.out.2]
   have b0 := dz.cell Z3.out.1
   have b1 := dz.cell Z3.out.2
   have VE := aa (jq.out.trans dz)
   have BO := aa (pI.out.keep (dz.kept _))
   have OB := qD.out.up VE.out
   have OC := aa OB
   obtain ⟨op, oc, rfl⟩ := OB.form
   rw [rV.out]
   have OC : Hid (gp w1.heap.size w6 (.slice op n oc) es) := by have h := OC.out; rw [rV.out] at h; exact h
   have E3 : Hid (ay (fun b => some b ≠ (Value.slice op n oc).ownBlock) w6 (.agg #[.slice p4 q1.ps.length c4, .slice n4 q1.ns.length d4]) (flat (uR names r))) := by
    have h := BO.out
    have hlt : ∀ b, (Value.slice op n oc).ownBlock = some b → b < wo.heap.size := fun b hb => by
     have h2 := qD.out.1
     rw [rV.out] at h2
     exact (World.ownsRow.lt h2 b hb).2
    rw [← HQ1.out]
    exact h.sub fun b hb _ e => by have h1 := hlt b e.symm; have h2 := uC.out; have h3 := G0.out; omega
   have b5 : Hid (w1.heap.size ≤ w6.heap.size) := (B5.out.trans VE.out).size
   clear OB dz pI BO tG
   go_wp2_with (at_builtin; refine Cl w6 rfl _ _ 94 rfl w1.heap.size _ 64 Tryz.underlying94 Tryz.Rn rfl (by decide) OC.out rfl ((.slice p4 q1.ps.length c4, .slice n4 q1.ns.length d4), uR names r) rfl E3.out n rV.out (by have := aQ.out; have := lV.out.2.1; omega) b5.out ?_; intro g8 iG w8 bZ cH pQ; have E4 := aa bZ; have mZ := aa pQ; clear bZ cH pQ)
   go_roundw
   case rel => exact ⟨n + 1, aQ.out, by go_num, Below.trans (show Below w1.heap.size w1 w6 from B5.out.trans VE.out) mZ.out, _, E4.out, by rw [fH.out, List.map_append]; rfl⟩
   case measure => have := aQ.out; simp [intOf]; omega
  ·obtain rfl : n = (bg names.tail).length := by omega
   have i4 : ¬ ((bg names.tail).length : Int) < ((bg names.tail).length : Int) := by omega
   have VF := gp.up hes (Up.refl wo)
   obtain ⟨op, oc, rfl⟩ := VF.form
   have pR : es.map (·.2) = (rt names.length names.tail).map (uR names) := by
    rw [hem, lV.out.1, List.take_length]
    have : rt names.length names.tail = iO names.tail := mC _ _ _ (by simp) (Nat.le_refl _)
    rw [this]
   have jK : es.length = (bg names.tail).length := by
    have := congrArg List.length hem
    rw [List.length_map, List.length_map, lV.out.1, List.take_length] at this
    rw [lV.out.1]; exact this
   have hne : es ≠ [] := fun e => by rw [e] at jK; have := lV.out.2.2; simp at jK; omega
   have TI := aa (LL hes hne (by rw [jK]; have := lV.out.2.1; omega))
   have qD := aa hes
   have LQ := aa pR
   have B5 := aa eM
   clear hI hes VF hem pR eM hlt hne jK
   go_wp2_with fail
   refine TI.out.mono ?_
   rintro e w9 ⟨rfl, VG, es', Qj, GS, g9, c9, Z4, GU⟩
   have ng : Hid (EZ w names (.returned (.tuple #[.slice op es.length oc, .int .i64 0])) w9) := by
    have hB : Below w1.heap.size w1 w9 := Below.grown (show Below w1.heap.size w1 wo from B5.out) VG B5.out.size fun k hk => (World.ownsRow.lt qD.out.1 k hk).1
    have wM : (es'.map (·.2)) = aW names := by
     refine sY (((Qj.map (·.2)).trans (List.Perm.of_eq LQ.out)).trans (js _).symm) GS (qU _) fun r hr => ?_
     have hr2 : r ∈ aW names := (js _).mem_iff.2 (LQ.out ▸ (Qj.map (·.2)).mem_iff.1 hr)
     exact (eC tu.out hr2).1.good.ig
    refine ⟨?_, _, rfl, g9, c9, es', ?_, wM, GU, ?_⟩
    ·exact Up.trans bF.out hB
    ·rw [Z4, ← wM, List.length_map]
    ·intro x hx
     have h1 := qD.out.2 x (Qj.mem_iff.1 hx)
     exact (h1.keep fun b hb hlt => VG.block b hlt hb).sub fun _ _ _ => trivial
   clear VG Qj GS Z4 GU
   go_wp2_with fail
   go_ret2
   exact ng.out
end
section
open Go.RowKit Go.Deep
theorem Cm (s : ByteArray) (h : s.size - 1 < s.size) (PD : 16 < s.size) (wP : ((s[s.size - 1].toNat : Int) == 42) = true) : aP s.data.toList = false := by
 have hl := size_data s
 have h2 : s[s.size - 1] = 42 := by
  have h3 : (s[s.size - 1].toNat : Int) = 42 := by simpa using wP
  have h4 : s[s.size - 1].toNat = 42 := by omega
  exact UInt8.toNat_inj.1 h4
 unfold aP; rw [xM s h, h2, if_pos rfl, hl, decide_eq_false (by omega), Bool.and_false]
end
section
open Go.RowKit Go.Deep
def bL (l : List UInt8) : ByteArray := ⟨l.toArray⟩
theorem G3 (l : List UInt8) : (bL l).data.toList = l := rfl
theorem Ro (s : ByteArray) : bL s.data.toList = s := dH (by rw [G3])
theorem vu (a b : List UInt8) : bL a ++ bL b = bL (a ++ b) := dH (by rw [ByteArray.data_append, Array.toList_append]; rfl)
def rW (ks : List RT) (j : Nat) : List UInt8 := if j = 0 then [40] else eL (ks.take j)
theorem G4 {ks : List RT} (h : 0 < ks.length) : rW ks 0 ++ txR (gr ks 0) = rW ks (0 + 1) := by
 cases ks with
 | nil => simp at h
 | cons k ks =>
  show [40] ++ txR k = eL [k]
  rw [eL, txRs, List.append_nil]; rfl
theorem E5 {ks : List RT} {j : Nat} (h : j < ks.length) (h0 : j ≠ 0) : rW ks j ++ [44] ++ txR (gr ks j) = rW ks (j + 1) := by
 have hg : gr ks j = ks[j] := by simp [gr, h]
 unfold rW
 rw [if_neg h0, if_neg (by omega), List.take_succ_eq_append_getElem h, vO, hg, List.length_take, if_neg (by omega)]
 simp
theorem Rp {ks : List RT} (nm : ByteArray) (h : ks ≠ []) : rW ks ks.length ++ [41] = txR (.node nm ks) := by
 unfold rW
 rw [if_neg (fun e => h (List.eq_nil_of_length_eq_zero e)), List.take_length, pG nm h]
theorem vT (l : List UInt8) : (bL l).size = l.length := by rw [← size_data, G3]
theorem G5 {ks : List RT} (nm : ByteArray) (h : ks ≠ []) (j : Nat) : (rW ks j).length + 1 ≤ (txR (.node nm ks)).length := by
 rw [pG nm h, List.length_append, List.length_singleton]
 unfold rW
 split
 ·cases ks with
  | nil => exact absurd rfl h
  | cons k ks => rw [eL]; simp
 ·have := uQ ks j; omega
theorem G6 {ks : List RT} (nm : ByteArray) {j : Nat} (h : j < ks.length) : (txR (gr ks j)).length + 1 ≤ (txR (.node nm ks)).length := by
 have h0 : ks ≠ [] := fun e => by rw [e] at h; simp at h
 have h1 := G5 nm h0 (j + 1)
 by_cases e : j = 0
 ·subst e
  rw [← G4 h, List.length_append] at h1; omega
 ·rw [← E5 h e, List.length_append] at h1; omega
set_option maxHeartbeats 2000000 in
theorem LR (S : Nat → Prop) : ∀ (d : Nat) (r : RT), aG r ≤ d → d ≤ 1000000 → (txR r).length ≤ 5000000 → ∀ (w : World) (v : Value), RAt S w r v → Calls Tryz.prog 214 #[v] w fun e w' => e = .returned (.string (bL (txR r))) ∧ w = w' := by
 intro d
 induction d with
 | zero => intro r hr; have := jl r; omega
 | succ d ih =>
 intro r hr hd htl w v hv
 cases r with
 | node nm ks =>
  obtain ⟨b, kp, kc, vs, rfl, hS, c0, c1, hk, hs⟩ := hv.open
  simp only [RT.nm, RT.kids] at c0 c1 hk hs
  have eF := lH ks
  rw [aG] at hr
  have ir : Hid (∀ j, j < ks.length → Calls Tryz.prog 214 #[vN vs j] w fun e w' => e = .returned (.string (bL (txR (gr ks j)))) ∧ w = w') := fun j hj => by
   have := od hj
   have h2 := G6 nm hj
   exact ih _ (by omega) (by omega) (by omega) w _ (RsAt.get ks hs j hj)
  have HK := aa hk
  clear ih hv hS hs hk
  by_cases h0 : ks = []
  ·subst h0
   have BK : bL (txR (.node nm [])) = nm := by rw [sX, Ro]
   rw [BK]
   clear hr BK
   go_enter Tryz.func214, Tryz.ntmps214
   go_wp2_with fail
   go_ret
   exact ⟨rfl, rfl⟩
  ·have hpos : 0 < ks.length := List.length_pos_iff.2 h0
   have d0 : ((ks.length : Int) == 0) = false := beq_eq_false_iff_ne.2 (by omega)
   have iJ : Hid (ks.length ≤ 1000000) := by unfold Hid; omega
   have HALL := aa (Rp nm h0)
   have HONE := aa (G4 hpos)
   have qx : Hid (∀ j, (bL (rW ks j)).size + 1 ≤ 5000000) := fun j => by have := G5 nm h0 j; rw [vT]; omega
   have fT : Hid (∀ j, j < ks.length → (bL (txR (gr ks j))).size + 1 ≤ 5000000) := fun j hj => by have := G6 nm hj; rw [vT]; omega
   have nH : Hid (∀ j, j < ks.length → j ≠ 0 → rW ks j ++ [44] ++ txR (gr ks j) = rW ks (j + 1)) := fun j h1 h2 => E5 h1 h2
   clear hr h0 eF htl
   go_enter Tryz.func214, Tryz.ntmps214
   go_wp2_with fail
   go_loop [3, 4] (fun s i => ∃ j : Nat, j ≤ ks.length ∧ i = .int .i64 j ∧ s = .string (bL (rW ks j))) (fun _ i => ks.length - (intOf i).toNat)
   case atStart => exact ⟨0, Nat.zero_le _, rfl, rfl⟩
   case round =>
    obtain ⟨j, hj, rfl, rfl⟩ := hrel
    by_cases hlt : j < ks.length
    ·obtain ⟨kb, ko, rfl, tj⟩ := lG HK.out hlt
     have HJ := aa (ir.out j hlt)
     have i1 : (0 : Int) ≤ (j : Int) := by omega
     have i2 : (j : Int) < (ks.length : Int) := by omega
     have aQ := aa hlt
     have z1 := qx.out j
     have z2 := fT.out j hlt
     have i3 : (j : Int) < 1000000 := by have := iJ.out; omega
     clear hlt hj
     by_cases e0 : j = 0
     ·subst e0
      rw [Nat.add_zero] at tj
      go_wp2_with fail
      refine HJ.out.mono ?_
      rintro e w' ⟨rfl, rfl⟩
      go_wp2_with fail
      go_round
      case rel => exact ⟨1, aQ.out, rfl, by rw [vu, HONE.out]⟩
      case measure => have := aQ.out; simp [intOf]; omega
     ·have d1 : decide ((0 : Int) < (j : Int)) = true := decide_eq_true (by omega)
      have VH := aa e0
      have e0n : 0 < j := by omega
      clear e0
      go_wp2_with fail
      refine HJ.out.mono ?_
      rintro e w' ⟨rfl, rfl⟩
      go_wp2_with fail
      go_round
      case rel => exact ⟨j + 1, aQ.out, by go_num, by rw [← nH.out j aQ.out VH.out, ← vu, ← vu]; rfl⟩
      case measure => have := aQ.out; simp [intOf]; omega
    ·obtain rfl : j = ks.length := by omega
     have z1 := qx.out ks.length
     clear hlt hj
     go_wp2_with fail
     go_ret
     exact ⟨by rw [← HALL.out, ← vu]; rfl, rfl⟩
set_option maxHeartbeats 2000000 in
theorem Jl (S : Nat → Prop) (w : World) (v : Value) (t : av) (hT : ay S w v t) (hp : t.ps.length ≤ 1000000) (hn : t.ns.length ≤ 1000000) (hz : ∀ k, (gs t.ns k).size ≤ 70000) : Calls Tryz.prog 155 #[v] w (yV w t) := by
 obtain ⟨P, N, rfl, hP, hN⟩ := hT
 have hu := Up.alloc w (.cells #[P, N] 39)
 have iL : ay S (w.alloc (.cells #[P, N] 39)) (.agg #[P, N]) t := ay.keep ⟨P, N, rfl, hP, hN⟩ (hu.kept _)
 have fN := aa (sN S _ _ t iL hp hn hz)
 have HT := aa iL
 have HU := aa hu
 have dR := aa (dO w P N 39)
 have iu := aa (dP w P N 39)
 have hc0 := dR.out
 have hc1 := iu.out
 clear hu iL hP hN
 go_enter Tryz.func155, Tryz.ntmps155
 go_wp2_with fail
 generalize w.alloc (.cells #[P, N] 39) = w1 at *
 refine fN.out.mono ?_
 rintro e w2 ⟨rfl, hb2⟩
 have aF : Up w1 w2 := hb2
 have hc0 := aF.cell dR.out
 have hc1 := aF.cell iu.out
 have mP := aa (HT.out.keep (aF.kept S))
 have bE := aa (HU.out.trans aF)
 clear hb2 aF fN HT HU dR iu
 by_cases he : aB t = 0
 ·have HE := aa he
  rw [he]
  have Br := aa (Gw S t he (cB t 0) 0 (Nat.le_refl _) (aI he).1 w2 _ mP.out)
  have PG := aa (A7 he)
  have htl := GJ he hz
  have dW : Hid ((txR (fZ t)).length ≤ 5000000) := by unfold Hid; omega
  have hz1 : (bL (txR (fZ t))).size ≤ 5000000 := by rw [vT]; omega
  clear htl
  have HX : Hid (bL (txR (fZ t)) ++ bL [59] = bL (qq t)) := by unfold Hid qq; rw [vu, if_neg (by simp [he])]
  have GL : Hid (tF t = 0) := by unfold Hid tF; rw [if_neg (by simp [he])]
  clear he
  go_wp2_with fail
  refine Br.out.mono ?_
  rintro e w3 ⟨b9, v3, rfl, hr3⟩
  have dL := aa (bE.out.trans b9)
  have HTX := aa (LR _ 64 (fZ t) PG.out (by omega) dW.out w3 _ hr3)
  clear b9 hr3 Br
  go_wp2_with fail
  refine HTX.out.mono ?_
  rintro e w4 ⟨rfl, rfl⟩
  go_wp2_with fail
  refine ⟨rfl, .tuple #[.string (bL (qq t)), .int .i64 0], ?_, dL.out, by rw [GL.out]; rfl⟩
  rw [← HX.out]
  simp [results, Tryz.results155, go_sem]
  rfl
 ·have yD : (aB t != 0) = true := by simpa using he
  have HX : Hid (qq t = []) := by unfold Hid qq; rw [if_pos he]
  have GL : Hid (tF t = 1) := by unfold Hid tF; rw [if_pos he]
  clear he
  generalize aB t = te at yD ⊢
  go_wp2_with fail
  exact ⟨rfl, .tuple #[.string ⟨#[]⟩, .int .i64 1], by simp [results, Tryz.results155, go_sem], bE.out, by rw [GL.out, HX.out]⟩
end
end Go.Proofs.YteegefnjnikngaaGreat
