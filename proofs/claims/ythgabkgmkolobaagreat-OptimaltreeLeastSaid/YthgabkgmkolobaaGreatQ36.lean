/- optimaltree.places. The contracts of parsimony.Fitch and of the reference's Fitch. .. -/
import Derived.Test.YthgabkgmkolobaaGreatQ1
import Derived.Test.YthgabkgmkolobaaGreatQ34
import Derived.Test.YthgabkgmkolobaaGreatQ3
import Derived.Test.YthgabkgmkolobaaGreatQ6
import Derived.Deep.RegionHeld3
import Derived.Test.YthgabkgmkolobaaGreatQ33
import Derived.Test.YthgabkgmkolobaaGreatQ30
set_option maxRecDepth 100000
namespace Go.Proofs.YthgabkgmkolobaaGreat
section
open Go.RowKit Go.Deep
def tM (t : ay) (names : List ByteArray) (n : Nat) : List Int := (List.range n).map fun j => ir names (gs t.ns (gi (aj t.ns) j).toNat)
theorem ve (t : ay) (names : List ByteArray) (n : Nat) : (tM t names n).length = n := by simp [tM]
theorem S3 (t : ay) (names : List ByteArray) (n : Nat) : tM t names (n + 1) = tM t names n ++ [ir names (gs t.ns (gi (aj t.ns) n).toNat)] := by simp [tM, List.range_succ]
theorem Qa {t : ay} {names : List ByteArray} {n j : Nat} (h : j < n) : gi (tM t names n) j = ir names (gs t.ns (gi (aj t.ns) j).toNat) := by simp [tM, gi, h]
def xx (t : ay) (names : List ByteArray) : Bool := decide (az t = 0) && kZ t names
def Ja (w : World) (t : ay) (names : List ByteArray) (e : Ending) (w' : World) : Prop :=
 Up w w' ∧ ∃ v, e = .returned (.tuple #[v, .bool (xx t names)]) ∧ (xx t names = true → aq (fun b => w.heap.size ≤ b) w' v (tM t names (aj t.ns).length))
theorem Nd {w W : World} {t : ay} {names : List ByteArray} {v : Value} (h : xx t names = false) (hu : Up w W) : Ja w t names (.returned (.tuple #[v, .bool false])) W :=
 ⟨hu, v, by rw [h], fun e => by rw [h] at e; cases e⟩
set_option maxHeartbeats 4000000 in
theorem S4 (S : Nat → Prop) (w : World) (v vn : Value) (t : ay) (names : List ByteArray) (hT : aA S w v t) (hp : t.ps.length ≤ 1000000) (hn : t.ns.length ≤ 1000000) (hz : ∀ k, (gs t.ns k).size ≤ 70000) (h : ah S w vn names) (hnn : names.length ≤ 1000000) :
  Calls Tryz.prog 108 #[v, vn] w (Ja w t names) := by
 obtain ⟨P, N, rfl, hP, hN⟩ := hT
 obtain ⟨np, nc, rfl, hncap, -⟩ := aB.open hN
 have hN : ah S w (.slice np t.ns.length nc) t.ns := hN
 obtain ⟨pp, pc, rfl, hpcap, -⟩ := aB.open hP
 have hP : aq S w (.slice pp t.ps.length pc) t.ps := hP
 obtain ⟨mp, mc, rfl, hmcap, -⟩ := aB.open h
 have h : ah S w (.slice mp names.length mc) names := h
 have aR : Up w (w.alloc (.cells #[.slice pp t.ps.length pc, .slice np t.ns.length nc] 39)) := Up.alloc _ _
 have hrb := fh (w := w) (P := .slice pp t.ps.length pc) (N := .slice np t.ns.length nc) (T := 39)
 have hsz : w.heap.size < (w.alloc (.cells #[.slice pp t.ps.length pc, .slice np t.ns.length nc] 39)).heap.size := by simp
 obtain ⟨q0, q1, -, -⟩ := boxed hrb
 have xy := aa (rE S (w.alloc (.cells #[.slice pp t.ps.length pc, .slice np t.ns.length nc] 39)) (.agg #[.slice pp t.ps.length pc, .slice np t.ns.length nc]) t ⟨_, _, rfl, aq.keep hP (aR.kept S), ah.keep hN (aR.kept S)⟩ hp hn hz)
 have HN := aa (ah.keep hN (aR.kept S))
 have HM := aa (ah.keep h (aR.kept S))
 have bH := aa aR
 have ct := aa hsz
 have HB : Hid (xx t names = (decide (az t = 0) && (decide ((aj t.ns).length = names.length) && !Dh t names))) := rfl
 have fD : Hid (∀ n, n < (aj t.ns).length → ∃ k : Nat, gi (aj t.ns) n = k ∧ k < t.ns.length) := fun n hn => by
  obtain ⟨k, h1, h2, _⟩ := oB hn
  exact ⟨k, h1, h2⟩
 have dQ : Hid ((aj t.ns).length ≤ 1000000) := Nat.le_trans (tR _) hn
 have Qb : Hid (∀ n, n < (aj t.ns).length → ir names (gs t.ns (gi (aj t.ns) n).toNat) < 0 → Dh t names = true) := fun n hn h0 => List.any_eq_true.2 ⟨n, List.mem_range.2 hn, decide_eq_true h0⟩
 have HON : Hid ((∀ n, n < (aj t.ns).length → ¬ ir names (gs t.ns (gi (aj t.ns) n).toNat) < 0) → Dh t names = false) := fun hh => any_none fun j hj => decide_eq_false (hh j hj)
 clear hP hN h aR hrb hsz hz
 go_enter Tryz.func108, Tryz.ntmps108
 go_wp2_with fail
 generalize w.alloc (.cells #[.slice pp t.ps.length pc, .slice np t.ns.length nc] 39) = w1 at *
 refine xy.out.mono ?_
 rintro e w2 ⟨hb, ⟨h1, rfl⟩ | ⟨h1, lv, rfl, hlv⟩⟩
 ·have ey : Hid (xx t names = false) := by unfold Hid; rw [HB.out, decide_eq_false h1]; rfl
  have bw := aa (bH.out.trans (show Up w1 w2 from hb))
  have Cs := aa (Nd (v := .slice none 0 0) ey.out bw.out)
  clear hb h1 xy
  go_wp2_with fail
  go_ret2
  exact Cs.out
 obtain ⟨lp, lc, rfl, -, -⟩ := aB.open hlv
 replace hlv : aq (fun b => w1.heap.size ≤ b) w2 (.slice lp (aj t.ns).length lc) (aj t.ns) := hlv
 have aG : Up w1 w2 := hb
 have bw := aa (bH.out.trans aG)
 have lX : Hid (xx t names = (decide ((aj t.ns).length = names.length) && !Dh t names)) := by unfold Hid; rw [HB.out, decide_eq_true h1]; rfl
 by_cases hl : (aj t.ns).length = names.length
 ·have Nf := aa hlv
  have Hp := aa (ah.keep HN.out (aG.kept _))
  have Lb := aa (ah.keep HM.out (aG.kept _))
  have Ag : Hid (xx t names = !Dh t names) := by unfold Hid; rw [lX.out, decide_eq_true hl]; rfl
  have HQ := aa (And.intro (aG.cell q0) (aG.cell q1))
  have d1 : (((aj t.ns).length : Int) != (names.length : Int)) = false := by simp [hl]
  have HL := aa hl
  clear hb h1 hlv aG xy q0 q1 bH HB lX hl
  go_wp2_with fail
  have ur : Hid (w.heap.size ≤ w2.heap.size) := bw.out.size
  clear d1
  go_loopw [8, 10, 11, 28] (fun a _ _ i wr => ∃ k : Nat, k ≤ (aj t.ns).length ∧ i = .int .i64 k ∧ Hid (aC w2.heap.size 3 wr a ((tM t names k).map (Value.int .i64)) ∧ Up w2 wr ∧ ∀ n, n < k → ¬ ir names (gs t.ns (gi (aj t.ns) n).toNat) < 0)) (fun _ _ _ i _ => (aj t.ns).length - (intOf i).toNat)
  case atStart => exact ⟨0, Nat.zero_le _, rfl, aC.nil _ _ _, Up.refl _, fun n hn => absurd hn (Nat.not_lt_zero _)⟩
  case round =>
   obtain ⟨k, hk, rfl, hI⟩ := hrel
   obtain ⟨wo, rfl⟩ : ∃ wo : World, wo = wr := ⟨_, rfl⟩
   obtain ⟨hA, fE, hd⟩ := hI.out
   by_cases hlt : k < (aj t.ns).length
   ·obtain ⟨xb, xo, rfl, gM⟩ := cK (aq.keep Nf.out (fE.kept _)) hlt
    obtain ⟨x, hx1, hx2⟩ := fD.out k hlt
    obtain ⟨nb, no, rfl, dL⟩ := bz (ah.keep Hp.out (fE.kept _)) hx2
    have DT : Hid (Calls Tryz.prog 95 #[.slice mp names.length mc, .string (gs t.ns x)] wo fun e w' => e = .returned (.int .i64 (ir names (gs t.ns x))) ∧ wo = w') := zK _ wo _ names.length (fun j => gs names j) (gs t.ns x) (ah.keep Lb.out (fE.kept _)) hnn
    have gV : Hid ((tM t names (k + 1)).map (Value.int .i64) = (tM t names k).map (Value.int .i64) ++ [.int .i64 (ir names (gs t.ns x))]) := by
     unfold Hid; rw [S3, List.map_append, hx1, Int.toNat_natCast]; rfl
    have dG : Hid (((tM t names k).map (Value.int .i64)).length = k) := by unfold Hid; rw [List.length_map, ve]
    have S5 := aa (Qb.out k hlt)
    have q0 := fE.cell HQ.out.1
    have q1 := fE.cell HQ.out.2
    rw [hx1] at gM
    have kE := aa hx1
    have HA := aa hA
    have Vm := aa fE
    have HD := aa hd
    have i1 : (0 : Int) ≤ (k : Int) := by omega
    have i2 : (k : Int) < ((aj t.ns).length : Int) := by omega
    have i3 : (k : Int) < 1000000 := by have := dQ.out; omega
    have i4 : (0 : Int) ≤ (x : Int) := by omega
    have i5 : (x : Int) < (t.ns.length : Int) := by omega
    have hsz := fE.size
    clear hI hA fE hd hx1
    by_cases hf : ir names (gs t.ns x) < 0
    ·have ey : Hid (xx t names = false) := by unfold Hid; rw [Ag.out, S5.out (by rw [kE.out, Int.toNat_natCast]; exact hf)]; rfl
     have Cs := aa (Nd (v := .slice none 0 0) ey.out (bw.out.trans Vm.out))
     generalize ir names (gs t.ns x) = fx at *
     generalize gs t.ns x = nm at *
     clear gV S5 kE
     go_wp2_with fail
     refine DT.out.mono ?_
     rintro e w' ⟨rfl, rfl⟩
     go_wp2_with fail
     go_ret2
     exact Cs.out
    ·have HF := aa hf
     have HFG : Hid (ir names (gs t.ns (gi (aj t.ns) k).toNat) = ir names (gs t.ns x)) := by unfold Hid; rw [kE.out, Int.toNat_natCast]
     generalize ir names (gs t.ns x) = fx at *
     generalize gs t.ns x = nm at *
     have h9 : (0 : Int) ≤ fx := Int.not_lt.1 hf
     obtain ⟨y, rfl⟩ : ∃ y : Nat, fx = y := ⟨fx.toNat, by omega⟩
     clear S5 kE hf h9
     obtain ⟨ap, ac, rfl, -⟩ := HA.out.form dG.out
     have d9 : decide ((y : Int) < 0) = false := by simp
     go_wp2_with fail
     refine DT.out.mono ?_
     rintro e w' ⟨rfl, rfl⟩
     go_wp2_with (at_builtin; refine tT wo rfl _ _ 26 rfl w2.heap.size 3 _ 8 Tryz.underlying26 Tryz.ki rfl (by decide) HA.out rfl _ rfl rfl k dG.out (by omega) hsz ?_; intro g cap w8 hown1 hg1 nI)
     have Jb : Hid (aC w2.heap.size 3 w8 (.slice (some ⟨g, 0, none⟩) (k + 1) cap) ((tM t names (k + 1)).map (Value.int .i64))) := by unfold Hid; rw [gV.out]; exact hown1
     have iX : Hid (Up w2 w8) := Below.trans Vm.out nI
     clear hown1 hg1 nI
     go_roundw
     case rel => exact ⟨k + 1, by omega, by go_num, Jb.out, iX.out, fun n hn => if e : n = k then by subst e; rw [HFG.out]; exact Int.not_lt.2 HF.out else Int.not_lt.2 (HD.out n (by omega))⟩
     case measure => simp [intOf]; omega
   ·obtain rfl : k = (aj t.ns).length := by omega
    have ey : Hid (xx t names = true) := by unfold Hid; rw [Ag.out, HON.out fun n hn => Int.not_lt.1 (hd n hn)]; rfl
    obtain ⟨ap, ac, rfl, -⟩ := hA.form (n := (aj t.ns).length) (by rw [List.length_map, ve])
    have hi := hA.ints
    have qf : Hid (Ja w t names (.returned (.tuple #[.slice ap (aj t.ns).length ac, .bool true])) wo) := ⟨bw.out.trans fE, _, by rw [ey.out], fun _ => hi.sub fun b hb _ => Nat.le_trans ur.out hb⟩
    clear hI hA fE hd hi
    go_wp2_with fail
    go_ret2
    exact qf.out
 ·have ey : Hid (xx t names = false) := by unfold Hid; rw [lX.out, decide_eq_false hl]; rfl
  have d1 : ¬ ((aj t.ns).length : Int) = (names.length : Int) := by omega
  have Cs := aa (Nd (v := .slice none 0 0) ey.out bw.out)
  clear hb h1 xy
  go_wp2_with fail
  go_ret2
  exact Cs.out
end
section
open Go.RowKit Go.Deep
def Qc (w : World) (t : ay) (st : List Int) (e : Ending) (w' : World) : Prop :=
 Up w w' ∧ e = .returned (.tuple #[.int .i64 (bZ t st (bE 16)), .int .i64 (gJ t st (bE 16))])
theorem mat16 : nu (bE 16) = 0 := by decide +kernel
theorem FK : (bE 16).length = 16 := jx 16
theorem par16 {t : ay} (h : az t = 0) (st : List Int) : gJ t st (bE 16) = mD st (aj t.ns).length (-1) 16 := by
 unfold gJ; rw [if_neg (fun e => e h), if_neg (fun e => e mat16), FK]; rfl
theorem LJ {t : ay} {st : List Int} {cs : List (List Int)} (h : gJ t st cs ≠ 0) : bZ t st cs = 0 := by unfold bZ; rw [if_neg h]
theorem S6 (T : Nat → Prop) (w : World) (vr : Value) (row : List Int) (hR : aq T w vr row) (Xm : row.length ≤ 1000) :
  Calls Tryz.prog 169 #[vr] w fun e w' => e = .returned (.tuple #[.int .i64 (bh (fun _ => 0) (gi row) row.length).1, .int .i64 (bh (fun _ => 0) (gi row) row.length).2]) ∧ w = w' := VM T w vr row hR Xm
set_option maxHeartbeats 2000000 in
theorem Ws (S : Nat → Prop) (w : World) (v vs : Value) (t : ay) (st : List Int) (hT : aA S w v t) (hS : aq S w vs st) (hp : t.ps.length ≤ 1000000) (hn : t.ns.length ≤ 1000000) (hz : ∀ k, (gs t.ns k).size ≤ 70000) (hst : st.length ≤ 1000000) :
  Calls Tryz.prog 124 #[v, vs] w (Qc w t st) := by
 obtain ⟨P, N, rfl, hP, hN⟩ := hT
 have hu := Up.alloc w (.cells #[P, N] 39)
 have jR : aA S (w.alloc (.cells #[P, N] 39)) (.agg #[P, N]) t := aA.keep ⟨P, N, rfl, hP, hN⟩ (hu.kept S)
 have HK := aa (rE S _ _ t jR hp hn hz)
 have HU := aa hu
 have gj := aa (dW w P N 39)
 have gm := aa (eu w P N 39)
 have HT := aa jR
 have HS := aa (aq.keep hS (hu.kept S))
 have UC := aa hz
 clear hu jR hS hP hN hz
 go_enter Tryz.func124, Tryz.ntmps124
 go_wp2_with fail
 generalize w.alloc (.cells #[P, N] 39) = w1 at *
 refine HK.out.mono ?_
 rintro e w2 ⟨hb, ⟨he, rfl⟩ | ⟨he, vl, rfl, hl⟩⟩
 ·have bw := aa (HU.out.trans (show Up w1 w2 from hb))
  have HE := aa he
  clear hb he HK
  go_wp2_with fail
  go_ret2
  have hpe : gJ t st (bE 16) = 1 := by unfold gJ; rw [if_pos HE.out]
  exact ⟨bw.out, by rw [LJ (by rw [hpe]; decide), hpe]; rfl⟩
 ·have aG : Up w1 w2 := hb
  have hc0 := aG.cell gj.out
  have hc1 := aG.cell gm.out
  have bw := aa (HU.out.trans aG)
  have qD := aa (HT.out.keep (aG.kept S))
  have lW := aa (aq.keep HS.out (aG.kept S))
  obtain ⟨ql, capl, rfl, _, _⟩ := aB.open hl
  have HE := aa he
  have HKN := aa (VL S w2 vs st (aj t.ns).length (-1) 16 lW.out hst)
  have yH := aa (par16 he st)
  clear hb he HK aG hl HU gj gm HT HS
  go_wp2_with fail
  refine HKN.out.mono ?_
  rintro e w3 ⟨rfl, hb3⟩
  have bX : Up w2 w3 := hb3
  have hc0 := bX.cell hc0
  have hc1 := bX.cell hc1
  have dc := aa (bw.out.trans bX)
  have HT3 := aa (qD.out.keep (bX.kept S))
  have E4 := aa (aq.keep lW.out (bX.kept S))
  clear hb3 bX HKN
  rw [← yH.out]
  by_cases hpe : gJ t st (bE 16) = 0
  ·rw [hpe]
   have hv := FV hpe
   have HF : Hid (bZ t st (bE 16) = (bh (fun _ => 0) (gi (aP t st (bE 16) 0)) (bE 16).length).1) := by unfold Hid bZ; rw [if_pos hpe]
   have HP := aa hpe
   have sY : Hid (∀ W vc, Up w3 W → aU Any W vc (bE 16) → Calls Tryz.prog 170 #[.agg #[P, N], vs, vc] W (LA W t st (bE 16))) := fun W vc hW hR =>
    (VP Any W _ _ _ t st (bE 16) ((HT3.out.keep (hW.kept _)).sub fun _ _ _ => trivial) (aq.sub (aq.keep E4.out (hW.kept _)) fun _ _ _ => trivial) hR UC.out hv).mono fun _ _ h => tb1 hv h
   have hml : (aP t st (bE 16) 0).length ≤ 1000 := by rw [fH, FK]; omega
   have hpos0 : (0 : Int) < (t.ps.length : Int) := by have := (aD HE.out).1; omega
   have uK := aa hml
   have HW3 := aa (Up.refl w3)
   have eZ : Hid (Up w3 (w3.drewN 1)) := Up.drewN w3 1
   clear hpe hv hml
   go_wp2_with fail
   go_region_with (first
    | (go_at_call 171; refine (unit_t _ 16 (by decide) (by decide)).mono ?_; rintro e w5 ⟨nB, vc, rfl, Ez⟩; have hR5 := aa Ez; have hc0 := (eZ.out.trans (show Up _ w5 from nB)).cell hc0; have hc1 := (eZ.out.trans (show Up _ w5 from nB)).cell hc1; have eZ : Hid (Up w3 w5) := eZ.out.trans (show Up _ w5 from nB); clear nB Ez)
    | (go_at_call 170; refine (sY.out _ _ eZ.out hR5.out).mono ?_; rintro e w6 ⟨tb, tof, tcap, rq, rc, rfl, hcell, hrow, hup6⟩; have hR6 := aa hrow; have eZ : Hid (Up w3 w6) := eZ.out.trans hup6; clear hup6 hrow)
    | (go_at_call 169; refine (S6 Any _ _ _ hR6.out uK.out).mono ?_; rintro e w7 ⟨rfl, rfl⟩))
   all_goals
    go_wp2_with fail
    go_ret2
    exact ⟨dc.out.trans eZ.out, by rw [HF.out, HP.out, FK, fH, FK]; rfl⟩
  ·have BK : (gJ t st (bE 16) != 0) = true := by simpa using hpe
   have HP := aa hpe
   clear hpe
   have yS : Hid (bZ t st (bE 16) = 0) := LJ HP.out
   go_wp2_with fail
   go_ret2
   exact ⟨dc.out, by rw [yS.out]; rfl⟩
end
section
open Go.RowKit Go.Deep
set_option maxHeartbeats 400000 in
theorem Qd (s : ByteArray) (hs : s.size ≤ 70000) (w : World) : Calls Tryz.prog 150 #[.string s] w fun e w' => e = .returned (.bool (aY s.data.toList)) ∧ Below w.heap.size w w' := by
 go_enter Tryz.func150, Tryz.ntmps150
 go_wp2_with fail
 ·have hf := aa (BZ s (by omega) (by omega) ‹_›)
  refine (kT _ (by simp; omega) _).mono ?_
  rintro e w1 ⟨rfl, hb⟩
  rw [← hf.out]
  go_wp2_with fail
  go_ret
  exact ⟨rfl, hb⟩
 ·have hf := aa (FD s (by omega) (by omega) ‹_›)
  go_ret
  exact ⟨aL (by rw [hf.out]), Below.refl _ _⟩
 ·have hf := aa (z7 s (by omega) ‹_›)
  refine (kT _ hs _).mono ?_
  rintro e w1 ⟨rfl, hb⟩
  rw [← hf.out]
  go_wp2_with fail
  go_ret
  exact ⟨rfl, hb⟩
 ·have hf := aa (Ev s (by omega))
  refine (kT _ hs _).mono ?_
  rintro e w1 ⟨rfl, hb⟩
  rw [← hf.out]
  go_wp2_with fail
  go_ret
  exact ⟨rfl, hb⟩
set_option maxHeartbeats 400000 in
theorem Ng (S : Nat → Prop) (w : World) (v : Value) (names : List ByteArray) (s : ByteArray) (h : ah S w v names) (hn : names.length ≤ 1000000) :
  Calls Tryz.prog 143 #[v, .string s] w fun e w' => e = .returned (.int .i64 (ir names s)) ∧ w = w' := by
 obtain ⟨p, cap, rfl, hcap, -⟩ := aB.open h
 have h : ah S w (.slice p names.length cap) names := h
 have HF : Hid (ir names s = b8 (fun j => decide (s = gs names j)) names.length) := rfl
 have HN := aa h
 clear h
 go_enter Tryz.func143, Tryz.ntmps143
 go_wp2_with fail
 go_loop [4, 5] (fun _ i => ∃ k : Nat, k ≤ names.length ∧ i = .int .i64 k ∧ Hid (∀ j, j < k → decide (s = gs names j) = false)) (fun _ i => names.length - (intOf i).toNat)
 case atStart => exact ⟨0, Nat.zero_le _, rfl, fun j hj => absurd hj (Nat.not_lt_zero _)⟩
 case round =>
  obtain ⟨k, hk, rfl, hd⟩ := hrel
  by_cases hlt : k < names.length
  ·obtain ⟨b, off, rfl, hc⟩ := bz HN.out hlt
   have qg : Hid (decide (s = gs names k) = true → (k : Int) = ir names s) := fun h1 => by rw [HF.out]; exact (lB (p := fun j => decide (s = gs names j)) hlt hd.out h1).symm
   have HX : Hid (∀ j, j < k + 1 → ¬ j = k → decide (s = gs names j) = false) := fun j hj h1 => hd.out j (by omega)
   have HK : Hid (∀ j, j < k + 1 → decide (s = gs names k) = false → decide (s = gs names j) = false) := fun j hj h1 => if e : j = k then by subst e; exact h1 else HX.out j hj e
   generalize gs names k = nm at *
   go_wp2_with fail
   ·have hx := zb ‹(nm.toList == s.toList) = true›
    go_ret
    exact ⟨aI (qg.out (by simpa using hx.symm)), rfl⟩
   ·have hx := F0 ‹(nm.toList == s.toList) = false›
    go_round
    case rel => exact ⟨k + 1, by omega, by go_num, fun j hj => HK.out j hj (by simpa using fun e => hx e.symm)⟩
    case measure => simp [intOf]; omega
  ·obtain rfl : k = names.length := by omega
   have HE : Hid (ir names s = -1) := by unfold Hid; rw [HF.out]; exact jc hd.out
   go_wp2_with fail
   go_ret
   exact ⟨aI HE.out.symm, rfl⟩
end
section
def lY (L : List ByteArray) : List (BT ByteArray) := rf L.length L
def bB (L : List ByteArray) : List ByteArray := (lY L).map iW
def eA (L : List ByteArray) (bits : Nat) : List ByteArray := gs L 0 :: aW (fun i => bits.testBit i) L.tail (L.length - 1)
def eB (L : List ByteArray) (bits : Nat) : List ByteArray := aW (fun i => !bits.testBit i) L.tail (L.length - 1)
def Ct (L : List ByteArray) (bits : Nat) : List ByteArray := (bB (eA L bits)).flatMap fun s => (bB (eB L bits)).map fun t => pairT s t
theorem A7 (L : List ByteArray) : (jU L).Perm (lY L) := M3 _ _
theorem Jc (L : List ByteArray) : (bD L).Perm (bB L) := (A7 L).map iW
theorem Qe (L : List ByteArray) {bits : Nat} (h : bits < 2 ^ (L.length - 1) - 1) : eA L bits = dA L (2 ^ (L.length - 1) - 1 - bits) ∧ eB L bits = dB L (2 ^ (L.length - 1) - 1 - bits) := by
 have e1 : ∀ i, i < L.length - 1 → (2 ^ (L.length - 1) - 1 - bits).testBit i = !bits.testBit i := fun i hi => by
  have := Nat.testBit_two_pow_sub_succ (x := bits) (n := L.length - 1) (by omega) i
  rw [show 2 ^ (L.length - 1) - 1 - bits = 2 ^ (L.length - 1) - (bits + 1) by omega, this]
  simp [hi]
 unfold eA eB dA dB
 rw [jX (p := fun i => !(2 ^ (L.length - 1) - 1 - bits).testBit i) (q := fun i => bits.testBit i) fun i hi => by rw [e1 i hi, Bool.not_not], jX (p := fun i => (2 ^ (L.length - 1) - 1 - bits).testBit i) (q := fun i => !bits.testBit i) e1]
 exact ⟨rfl, rfl⟩
theorem e_len {L : List ByteArray} (h : 2 ≤ L.length) {bits : Nat} (h2 : bits < 2 ^ (L.length - 1) - 1) : (eA L bits).length < L.length ∧ 1 ≤ (eA L bits).length ∧ (eB L bits).length < L.length ∧ 1 ≤ (eB L bits).length := by
 obtain ⟨e1, e2⟩ := Qe L h2
 rw [e1, e2]
 exact M6 h (by omega) (by omega)
theorem mem_e {L : List ByteArray} {bits : Nat} (h : 1 ≤ L.length) (h2 : bits < 2 ^ (L.length - 1) - 1) : (∀ x ∈ eA L bits, x ∈ L) ∧ ∀ x ∈ eB L bits, x ∈ L := by
 obtain ⟨e1, e2⟩ := Qe L h2
 rw [e1, e2]
 exact M7 h
theorem zy : ∀ (d e : Nat) (L : List ByteArray), L.length ≤ d → L.length ≤ e → rf d L = rf e L
 | 0, e, L, h, _ => by
  have : L = [] := List.eq_nil_of_length_eq_zero (by omega)
  subst this
  cases e <;> rfl
 | d + 1, 0, L, _, h => by
  have : L = [] := List.eq_nil_of_length_eq_zero (by omega)
  subst this; rfl
 | _ + 1, _ + 1, [], _, _ => rfl
 | _ + 1, _ + 1, [x], _, _ => rfl
 | d + 1, e + 1, x :: y :: L, h1, h2 => by
  rw [rf, rf]
  refine iR fun bits hb => ?_
  have hb := List.mem_range.1 hb
  have hd := e_len (L := x :: y :: L) (by simp) (bits := bits) (by have : (x :: y :: L).length - 1 = (y :: L).length := rfl; rw [this]; omega)
  have ea : eA (x :: y :: L) bits = x :: aW (fun i => bits.testBit i) (y :: L) (y :: L).length := rfl
  have eb : eB (x :: y :: L) bits = aW (fun i => !bits.testBit i) (y :: L) (y :: L).length := rfl
  rw [← ea, ← eb]
  simp only [List.length_cons] at hd h1 h2
  rw [zy d e (eA _ _) (by omega) (by omega), zy d e (eB _ _) (by omega) (by omega)]
theorem Wt (x : ByteArray) : bB [x] = [x] := by
 unfold bB lY
 rw [List.length_singleton, rf, List.map_singleton, A3]
theorem rfT_eq {L : List ByteArray} (h : 2 ≤ L.length) : bB L = (List.range (2 ^ (L.length - 1) - 1)).flatMap (Ct L) := by
 obtain ⟨x, y, L, rfl⟩ : ∃ x y L', L = x :: y :: L' := by
  cases L with
  | nil => simp at h
  | cons x L =>
   cases L with
   | nil => simp at h
   | cons y L => exact ⟨x, y, L, rfl⟩
 unfold bB lY
 have e1 : (x :: y :: L).length = (y :: L).length + 1 := rfl
 rw [e1, rf, List.map_flatMap, Nat.add_sub_cancel]
 refine iR fun bits hb => ?_
 have hb := List.mem_range.1 hb
 have hd := e_len (L := x :: y :: L) h (bits := bits) (by have : (x :: y :: L).length - 1 = (y :: L).length := rfl; rw [this]; omega)
 unfold Ct bB
 rw [List.map_flatMap, List.flatMap_map]
 have ea : eA (x :: y :: L) bits = x :: aW (fun i => bits.testBit i) (y :: L) (y :: L).length := rfl
 have eb : eB (x :: y :: L) bits = aW (fun i => !bits.testBit i) (y :: L) (y :: L).length := rfl
 rw [← ea, ← eb]
 have f1 : rf (y :: L).length (eA (x :: y :: L) bits) = lY (eA (x :: y :: L) bits) := zy _ _ _ (by simp only [List.length_cons] at hd ⊢; omega) (Nat.le_refl _)
 have f2 : rf (y :: L).length (eB (x :: y :: L) bits) = lY (eB (x :: y :: L) bits) := zy _ _ _ (by simp only [List.length_cons] at hd ⊢; omega) (Nat.le_refl _)
 rw [f1, f2]
 refine iR fun a _ => ?_
 rw [List.map_map, List.map_map]
 refine List.map_congr_left fun b _ => ?_
 exact A4 a b
theorem o9 {L : List ByteArray} (h : L.length ≤ 4) : (bB L).length ≤ 15 := by
 rw [← (Jc L).length_eq]; exact ry h
theorem A9 {L : List ByteArray} (h : L.length ≤ 4) (hz : ∀ x ∈ L, x.size ≤ 20) {s : ByteArray} (hs : s ∈ bB L) : s.size ≤ 100 := wu h hz ((Jc L).mem_iff.2 hs)
def qh (L : List ByteArray) (n : Nat) : List ByteArray := (List.range n).flatMap (Ct L)
theorem S7 (L : List ByteArray) (n : Nat) : qh L (n + 1) = qh L n ++ Ct L n := by
 unfold qh; rw [List.range_succ, List.flatMap_append]; simp
theorem Wu {L : List ByteArray} {bits : Nat} (ha : (eA L bits).length ≤ 4) (hb : (eB L bits).length ≤ 4) : (Ct L bits).length ≤ 225 := by
 unfold Ct
 have h1 := o9 ha
 have h2 := o9 hb
 have h3 := mI (f := fun s => (bB (eB L bits)).map fun t => pairT s t) (K := 15) (bB (eA L bits)) fun s _ => by rw [List.length_map]; exact h2
 have h4 : (bB (eA L bits)).length * 15 ≤ 15 * 15 := Nat.mul_le_mul_right _ h1
 omega
theorem Wv {L : List ByteArray} (h2 : 2 ≤ L.length) (h : L.length ≤ 4) {n : Nat} (hn : n ≤ 2 ^ (L.length - 1) - 1) : (qh L n).length ≤ n * 225 := by
 unfold qh
 have h1 := mI (f := Ct L) (K := 225) (List.range n) fun b hb => by
  have hb := List.mem_range.1 hb
  have he := e_len h2 (bits := b) (by omega)
  exact Wu (by omega) (by omega)
 rw [List.length_range] at h1
 exact h1
def qG (L : List ByteArray) (bits n : Nat) : List ByteArray := ((bB (eA L bits)).take n).flatMap fun s => (bB (eB L bits)).map fun t => pairT s t
theorem S8 (L : List ByteArray) (bits : Nat) {n : Nat} (h : n < (bB (eA L bits)).length) : qG L bits (n + 1) = qG L bits n ++ (bB (eB L bits)).map fun t => pairT (gs (bB (eA L bits)) n) t := by
 have hg : gs (bB (eA L bits)) n = (bB (eA L bits))[n] := by simp [gs, h]
 unfold qG
 rw [List.take_succ_eq_append_getElem h, List.flatMap_append, hg]; simp
theorem Ww (L : List ByteArray) (bits : Nat) : qG L bits (bB (eA L bits)).length = Ct L bits := by unfold qG Ct; rw [List.take_length]
theorem Wx {L : List ByteArray} {bits n : Nat} (ha : (eA L bits).length ≤ 4) (hb : (eB L bits).length ≤ 4) : (qG L bits n).length ≤ 225 := by
 unfold qG
 have h1 := o9 ha
 have h2 := o9 hb
 have h3 := mI (f := fun s => (bB (eB L bits)).map fun t => pairT s t) (K := 15) ((bB (eA L bits)).take n) fun s _ => by rw [List.length_map]; exact h2
 rw [List.length_take] at h3
 have h4 : (min n (bB (eA L bits)).length) * 15 ≤ 15 * 15 := Nat.mul_le_mul_right _ (by omega)
 omega
def yT (L : List ByteArray) (bits n : Nat) : List ByteArray := gs L 0 :: aW (fun i => bits.testBit i) L.tail n
def yU (L : List ByteArray) (bits n : Nat) : List ByteArray := aW (fun i => !bits.testBit i) L.tail n
theorem S9 (L : List ByteArray) (bits n : Nat) (h : n + 1 < L.length) : yT L bits (n + 1) = yT L bits n ++ (if bits.testBit n then [gs L (n + 1)] else []) ∧ yU L bits (n + 1) = yU L bits n ++ (if bits.testBit n then [] else [gs L (n + 1)]) := by
 have hg : L.tail.getD n default = gs L (n + 1) := by
  unfold gs
  cases L with
  | nil => simp at h
  | cons a l =>
   have hl : n < l.length := by simpa using h
   simp [hl]
 unfold yT yU
 rw [iG, iG, hg]
 cases bits.testBit n <;> simp
theorem LK (L : List ByteArray) (bits : Nat) : yT L bits (L.length - 1) = eA L bits ∧ yU L bits (L.length - 1) = eB L bits := ⟨rfl, rfl⟩
theorem ins_at {q : RT} {xs : List RT} (hs : xs.Pairwise eV) {k : Nat} (hk : k ≤ xs.length) (hhi : ∀ j, k ≤ j → j < xs.length → ¬ eV (xs.getD j (.node ByteArray.empty [])) q) (hlo : k = 0 ∨ eV (xs.getD (k - 1) (.node ByteArray.empty [])) q) : (xs.take k ++ q :: xs.drop k).Perm (q :: xs) ∧ (xs.take k ++ q :: xs.drop k).Pairwise eV := by
 constructor
 ·refine List.perm_middle.trans ?_
  rw [List.take_append_drop]
 ·have hs2 := hs
  rw [← List.take_append_drop k xs, List.pairwise_append] at hs2
  obtain ⟨h1, h2, h3⟩ := hs2
  rw [List.pairwise_append, List.pairwise_cons]
  have hd : ∀ b ∈ xs.drop k, eV q b := fun b hb => by
   obtain ⟨j, hj, e⟩ := List.mem_iff_getElem.1 hb
   rw [List.length_drop] at hj
   rw [List.getElem_drop] at e
   have := hhi (k + j) (by omega) (by omega)
   rw [List.getD_eq_getElem?_getD, List.getElem?_eq_getElem (by omega), Option.getD_some, e] at this
   exact eV.total this
  have ht : ∀ a ∈ xs.take k, eV a q := fun a ha => by
   rcases hlo with e | h
   ·subst e; simp at ha
   ·obtain ⟨j, hj, e⟩ := List.mem_iff_getElem.1 ha
    rw [List.length_take] at hj
    rw [List.getElem_take] at e
    rw [List.getD_eq_getElem?_getD, List.getElem?_eq_getElem (by omega), Option.getD_some] at h
    by_cases ej : j = k - 1
    ·subst ej; rw [← e]; exact h
    ·have := List.pairwise_iff_getElem.1 hs j (k - 1) (by omega) (by omega) (by omega)
     rw [e] at this
     exact this.trans h
  exact ⟨h1, ⟨hd, h2⟩, fun a ha b hb => by
   rcases List.mem_cons.1 hb with rfl | hb
   ·exact ht a ha
   ·exact (ht a ha).trans (hd b hb)⟩
theorem Nh {names : List ByteArray} (hn : cH names) {q : RT} (hq : q ∈ aM names) : (aK q).size ≤ 1000 ∧ tF (aK q) = 0 ∧ qF (aK q) = flat q := by
 obtain ⟨h1, h2, h3, h4, h5, h6⟩ := cQ hn hq
 have hg := h1.good
 have hp : iU (aK q).data.toList = some q := by
  have e : (aK q).data.toList = txR q ++ [59] := by unfold aK bJ; simp
  rw [e]; exact uP hg.jb
 refine ⟨?_, by unfold tF; rw [hp]; exact h5, by unfold qF; rw [hp]; simp [h5]⟩
 have hl := zo (M := 20) q fun s hs => by
  rw [mU] at hs
  obtain ⟨u, hu, rfl⟩ := List.mem_map.1 hs
  by_cases e : u.kids = []
  ·exact o7 (hg.lf u hu e)
  ·rw [hg.wY u hu e]; exact Nat.zero_le _
 have hs : (aK q).size = (bJ q).length := by unfold aK; rw [← size_data]
 have hk : (bJ q).length = (txR q).length + 1 := by unfold bJ; simp
 have := hn.hi
 have h9 : aH q * (20 + 3) ≤ 9 * 23 := Nat.mul_le_mul_right _ (by omega)
 omega
theorem rf_all {names : List ByteArray} (hn : cH names) {qs : List RT} (hp : qs.Perm ((lY names.tail).map (uR names))) (hs : qs.Pairwise eV) : qs = aM names := by
 have h1 : ((lY names.tail).map (uR names)).Perm ((rt names.length names.tail).map (uR names)) := by
  have : rt names.length names.tail = jU names.tail := oW _ _ _ (by simp) (Nat.le_refl _)
  rw [this]
  exact ((A7 _).symm).map _
 refine wk (hp.trans (h1.trans (jw _).symm)) hs (pM _) fun r hr => ?_
 have hr2 : r ∈ aM names := (jw _).mem_iff.2 (h1.mem_iff.1 (hp.mem_iff.1 hr))
 exact (cQ hn hr2).1.good.jb
end
end Go.Proofs.YthgabkgmkolobaaGreat
