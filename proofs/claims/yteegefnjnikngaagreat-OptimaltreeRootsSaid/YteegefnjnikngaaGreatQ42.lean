/- optimaltree.places. The walk of optimaltree.entries. Reference 34: Count, leaf, index. .. -/
import Derived.Test.YteegefnjnikngaaGreatQ1
import Derived.Test.YteegefnjnikngaaGreatQ41
import Derived.Test.YteegefnjnikngaaGreatQ4
import Derived.Test.YteegefnjnikngaaGreatQ9
import Derived.Test.YteegefnjnikngaaGreatQ37
set_option maxRecDepth 100000
namespace Go.Proofs.YteegefnjnikngaaGreat
section
open Go.RowKit Go.Deep
def uo (t : ax) (names : List ByteArray) (n : Nat) : List Int := (List.range n).map fun j => iI names (gs t.ns (gi (ay t.ns) j).toNat)
theorem vR (t : ax) (names : List ByteArray) (n : Nat) : (uo t names n).length = n := by simp [uo]
theorem TH (t : ax) (names : List ByteArray) (n : Nat) : uo t names (n + 1) = uo t names n ++ [iI names (gs t.ns (gi (ay t.ns) n).toNat)] := by simp [uo, List.range_succ]
theorem QX {t : ax} {names : List ByteArray} {n j : Nat} (h : j < n) : gi (uo t names n) j = iI names (gs t.ns (gi (ay t.ns) j).toNat) := by simp [uo, gi, h]
def xQ (t : ax) (names : List ByteArray) : Bool := decide (az t = 0) && lG t names
def J3 (w : World) (t : ax) (names : List ByteArray) (e : Ending) (w' : World) : Prop :=
 Up w w' ∧ ∃ v, e = .returned (.tuple #[v, .bool (xQ t names)]) ∧ (xQ t names = true → aB (fun b => w.heap.size ≤ b) w' v (uo t names (ay t.ns).length))
theorem NR {w W : World} {t : ax} {names : List ByteArray} {v : Value} (h : xQ t names = false) (hu : Up w W) : J3 w t names (.returned (.tuple #[v, .bool false])) W :=
 ⟨hu, v, by rw [h], fun e => by rw [h] at e; cases e⟩
set_option maxHeartbeats 4000000 in
theorem TI (S : Nat → Prop) (w : World) (v vn : Value) (t : ax) (names : List ByteArray) (hT : aC S w v t) (hp : t.ps.length ≤ 1000000) (hn : t.ns.length ≤ 1000000) (hz : ∀ k, (gs t.ns k).size ≤ 70000) (h : av S w vn names) (hnn : names.length ≤ 1000000) :
  Calls Tryz.prog 119 #[v, vn] w (J3 w t names) := by
 obtain ⟨P, N, rfl, hP, hN⟩ := hT
 obtain ⟨np, nc, rfl, hncap, -⟩ := aD.open hN
 have hN : av S w (.slice np t.ns.length nc) t.ns := hN
 obtain ⟨pp, pc, rfl, hpcap, -⟩ := aD.open hP
 have hP : aB S w (.slice pp t.ps.length pc) t.ps := hP
 obtain ⟨mp, mc, rfl, hmcap, -⟩ := aD.open h
 have h : av S w (.slice mp names.length mc) names := h
 have aX : Up w (w.alloc (.cells #[.slice pp t.ps.length pc, .slice np t.ns.length nc] 39)) := Up.alloc _ _
 have hrb := fF (w := w) (P := .slice pp t.ps.length pc) (N := .slice np t.ns.length nc) (T := 39)
 have hsz : w.heap.size < (w.alloc (.cells #[.slice pp t.ps.length pc, .slice np t.ns.length nc] 39)).heap.size := by simp
 obtain ⟨q0, q1, -, -⟩ := boxed hrb
 have Az := aa (vX S (w.alloc (.cells #[.slice pp t.ps.length pc, .slice np t.ns.length nc] 39)) (.agg #[.slice pp t.ps.length pc, .slice np t.ns.length nc]) t ⟨_, _, rfl, aB.keep hP (aX.kept S), av.keep hN (aX.kept S)⟩ hp hn hz)
 have HN := aa (av.keep hN (aX.kept S))
 have HM := aa (av.keep h (aX.kept S))
 have bT := aa aX
 have bQ := aa hsz
 have HB : Hid (xQ t names = (decide (az t = 0) && (decide ((ay t.ns).length = names.length) && !DU t names))) := rfl
 have iX : Hid (∀ n, n < (ay t.ns).length → ∃ k : Nat, gi (ay t.ns) n = k ∧ k < t.ns.length) := fun n hn => by
  obtain ⟨k, h1, h2, _⟩ := r9 hn
  exact ⟨k, h1, h2⟩
 have dF : Hid ((ay t.ns).length ≤ 1000000) := Nat.le_trans (ux _) hn
 have HOF : Hid (∀ n, n < (ay t.ns).length → iI names (gs t.ns (gi (ay t.ns) n).toNat) < 0 → DU t names = true) := fun n hn h0 => List.any_eq_true.2 ⟨n, List.mem_range.2 hn, decide_eq_true h0⟩
 have HON : Hid ((∀ n, n < (ay t.ns).length → ¬ iI names (gs t.ns (gi (ay t.ns) n).toNat) < 0) → DU t names = false) := fun hh => any_none fun j hj => decide_eq_false (hh j hj)
 clear hP hN h aX hrb hsz hz
 go_enter Tryz.func119, Tryz.ntmps119
 go_wp2_with fail
 generalize w.alloc (.cells #[.slice pp t.ps.length pc, .slice np t.ns.length nc] 39) = w1 at *
 refine Az.out.mono ?_
 rintro e w2 ⟨hb, ⟨h1, rfl⟩ | ⟨h1, lv, rfl, hlv⟩⟩
 ·have eD : Hid (xQ t names = false) := by unfold Hid; rw [HB.out, decide_eq_false h1]; rfl
  have bH := aa (bT.out.trans (show Up w1 w2 from hb))
  have C9 := aa (NR (v := .slice none 0 0) eD.out bH.out)
  clear hb h1 Az
  go_wp2_with fail
  go_ret2
  exact C9.out
 obtain ⟨lp, lc, rfl, -, -⟩ := aD.open hlv
 replace hlv : aB (fun b => w1.heap.size ≤ b) w2 (.slice lp (ay t.ns).length lc) (ay t.ns) := hlv
 have aK : Up w1 w2 := hb
 have bH := aa (bT.out.trans aK)
 have kC : Hid (xQ t names = (decide ((ay t.ns).length = names.length) && !DU t names)) := by unfold Hid; rw [HB.out, decide_eq_true h1]; rfl
 by_cases hl : (ay t.ns).length = names.length
 ·have HLV2 := aa hlv
  have B3 := aa (av.keep HN.out (aK.kept _))
  have LC := aa (av.keep HM.out (aK.kept _))
  have s5 : Hid (xQ t names = !DU t names) := by unfold Hid; rw [kC.out, decide_eq_true hl]; rfl
  have HQ := aa (And.intro (aK.cell q0) (aK.cell q1))
  have d1 : (((ay t.ns).length : Int) != (names.length : Int)) = false := by simp [hl]
  have HL := aa hl
  clear hb h1 hlv aK Az q0 q1 bT HB kC hl
  go_wp2_with fail
  have uU : Hid (w.heap.size ≤ w2.heap.size) := bH.out.size
  clear d1
  go_loopw [8, 10, 11, 28] (fun a _ _ i wr => ∃ k : Nat, k ≤ (ay t.ns).length ∧ i = .int .i64 k ∧ Hid (aA w2.heap.size 3 wr a ((uo t names k).map (Value.int .i64)) ∧ Up w2 wr ∧ ∀ n, n < k → ¬ iI names (gs t.ns (gi (ay t.ns) n).toNat) < 0)) (fun _ _ _ i _ => (ay t.ns).length - (intOf i).toNat)
  case atStart => exact ⟨0, Nat.zero_le _, rfl, aA.nil _ _ _, Up.refl _, fun n hn => absurd hn (Nat.not_lt_zero _)⟩
  case round =>
   obtain ⟨k, hk, rfl, hI⟩ := hrel
   obtain ⟨wo, rfl⟩ : ∃ wo : World, wo = wr := ⟨_, rfl⟩
   obtain ⟨hA, fV, hd⟩ := hI.out
   by_cases hlt : k < (ay t.ns).length
   ·obtain ⟨xb, xo, rfl, qw⟩ := eE (aB.keep HLV2.out (fV.kept _)) hlt
    obtain ⟨x, hx1, hx2⟩ := iX.out k hlt
    obtain ⟨nb, no, rfl, cD⟩ := cu (av.keep B3.out (fV.kept _)) hx2
    have uV : Hid (Calls Tryz.prog 102 #[.slice mp names.length mc, .string (gs t.ns x)] wo fun e w' => e = .returned (.int .i64 (iI names (gs t.ns x))) ∧ wo = w') := zO _ wo _ names.length (fun j => gs names j) (gs t.ns x) (av.keep LC.out (fV.kept _)) hnn
    have jP : Hid ((uo t names (k + 1)).map (Value.int .i64) = (uo t names k).map (Value.int .i64) ++ [.int .i64 (iI names (gs t.ns x))]) := by
     unfold Hid; rw [TH, List.map_append, hx1, Int.toNat_natCast]; rfl
    have eT : Hid (((uo t names k).map (Value.int .i64)).length = k) := by unfold Hid; rw [List.length_map, vR]
    have TJ := aa (HOF.out k hlt)
    have q0 := fV.cell HQ.out.1
    have q1 := fV.cell HQ.out.2
    rw [hx1] at qw
    have kU := aa hx1
    have HA := aa hA
    have VF := aa fV
    have HD := aa hd
    have i1 : (0 : Int) ≤ (k : Int) := by omega
    have i2 : (k : Int) < ((ay t.ns).length : Int) := by omega
    have i3 : (k : Int) < 1000000 := by have := dF.out; omega
    have i4 : (0 : Int) ≤ (x : Int) := by omega
    have i5 : (x : Int) < (t.ns.length : Int) := by omega
    have hsz := fV.size
    clear hI hA fV hd hx1
    by_cases hf : iI names (gs t.ns x) < 0
    ·have eD : Hid (xQ t names = false) := by unfold Hid; rw [s5.out, TJ.out (by rw [kU.out, Int.toNat_natCast]; exact hf)]; rfl
     have C9 := aa (NR (v := .slice none 0 0) eD.out (bH.out.trans VF.out))
     generalize iI names (gs t.ns x) = fx at *
     generalize gs t.ns x = nm at *
     clear jP TJ kU
     go_wp2_with fail
     refine uV.out.mono ?_
     rintro e w' ⟨rfl, rfl⟩
     go_wp2_with fail
     go_ret2
     exact C9.out
    ·have HF := aa hf
     have HFG : Hid (iI names (gs t.ns (gi (ay t.ns) k).toNat) = iI names (gs t.ns x)) := by unfold Hid; rw [kU.out, Int.toNat_natCast]
     generalize iI names (gs t.ns x) = fx at *
     generalize gs t.ns x = nm at *
     have h9 : (0 : Int) ≤ fx := Int.not_lt.1 hf
     obtain ⟨y, rfl⟩ : ∃ y : Nat, fx = y := ⟨fx.toNat, by omega⟩
     clear TJ kU hf h9
     obtain ⟨ap, ac, rfl, -⟩ := HA.out.form eT.out
     have d9 : decide ((y : Int) < 0) = false := by simp
     go_wp2_with fail
     refine uV.out.mono ?_
     rintro e w' ⟨rfl, rfl⟩
     go_wp2_with (at_builtin; refine uC wo rfl _ _ 26 rfl w2.heap.size 3 _ 8 Tryz.underlying26 Tryz.lK rfl (by decide) HA.out rfl _ rfl rfl k eT.out (by omega) hsz ?_; intro g cap w8 hown1 hg1 og)
     have J4 : Hid (aA w2.heap.size 3 w8 (.slice (some ⟨g, 0, none⟩) (k + 1) cap) ((uo t names (k + 1)).map (Value.int .i64))) := by unfold Hid; rw [jP.out]; exact hown1
     have oQ : Hid (Up w2 w8) := Below.trans VF.out og
     clear hown1 hg1 og
     go_roundw
     case rel => exact ⟨k + 1, by omega, by go_num, J4.out, oQ.out, fun n hn => if e : n = k then by subst e; rw [HFG.out]; exact Int.not_lt.2 HF.out else Int.not_lt.2 (HD.out n (by omega))⟩
     case measure => simp [intOf]; omega
   ·obtain rfl : k = (ay t.ns).length := by omega
    have eD : Hid (xQ t names = true) := by unfold Hid; rw [s5.out, HON.out fun n hn => Int.not_lt.1 (hd n hn)]; rfl
    obtain ⟨ap, ac, rfl, -⟩ := hA.form (n := (ay t.ns).length) (by rw [List.length_map, vR])
    have hi := hA.ints
    have oT : Hid (J3 w t names (.returned (.tuple #[.slice ap (ay t.ns).length ac, .bool true])) wo) := ⟨bH.out.trans fV, _, by rw [eD.out], fun _ => hi.sub fun b hb _ => Nat.le_trans uU.out hb⟩
    clear hI hA fV hd hi
    go_wp2_with fail
    go_ret2
    exact oT.out
 ·have eD : Hid (xQ t names = false) := by unfold Hid; rw [kC.out, decide_eq_false hl]; rfl
  have d1 : ¬ ((ay t.ns).length : Int) = (names.length : Int) := by omega
  have C9 := aa (NR (v := .slice none 0 0) eD.out bH.out)
  clear hb h1 Az
  go_wp2_with fail
  go_ret2
  exact C9.out
end
section
open Go.RowKit Go.Deep
theorem Tryz.WT : (Tryz.prog.info? 99).map (fun i => (i.zero, i.size, i.bytes)) = some (some (.agg #[.slice none 0 0, .slice none 0 0, .string ⟨#[]⟩]), 3, 64) := by kernel_rfl
def EnI (w : World) (names : List ByteArray) (n : Nat) (out : Value) (wr : World) : Prop := Up w wr ∧ ∃ es : List mJ, iZ w.heap.size wr out es ∧ es.map (·.2) = ((kD names.tail).take n).map (uR names)
theorem iZ.form {base : Nat} {w : World} {v : Value} {es : List mJ} (h : iZ base w v es) : ∃ p c, v = .slice p es.length c := by
 rcases h.1.2 with ⟨e, h0⟩ | ⟨g, cap, cur, e, _⟩
 ·exact ⟨none, 0, by rw [e, h0]⟩
 ·exact ⟨_, _, e⟩
theorem Mj {R : List (BT ByteArray)} {n : Nat} (h : n < R.length) : R.take (n + 1) = R.take n ++ [gB R n] := by
 rw [List.take_succ_eq_append_getElem h]; simp [gB, h]
set_option maxHeartbeats 8000000 in
theorem FJ (S : Nat → Prop) (w : World) (v : Value) (names : List ByteArray) (hok : fT names) (h : av S w v names) : Calls Tryz.prog 73 #[v] w (J2 w names) := by
 have hlo := hok.lo
 have hhi := hok.hi
 obtain ⟨p, cap, rfl, hcap, -⟩ := aD.open h
 have h : av S w (.slice p names.length cap) names := h
 obtain ⟨nb, no, rfl, hc0⟩ := cu h (k := 0) (by omega)
 rw [Nat.add_zero] at hc0
 have hz : ∀ x ∈ names, x.size ≤ 20 := fun x hx => r7 (hok.nm x hx)
 have QY := aa (TC names.tail.length names.tail (Nat.le_refl _) (by rw [List.length_tail]; omega) (by rw [List.length_tail]; omega) (fun x hx => hz x (List.mem_of_mem_tail hx)) S w _ (FH h hlo))
 have xC := aa hok
 have fB := aa hc0
 have uj : Hid (names.tail.length ≤ 4 ∧ 1 ≤ names.tail.length) := by unfold Hid; rw [List.length_tail]; omega
 have hgz : (gs names 0).size ≤ 20 := iN hz 0
 have HGZ := aa hgz
 have HZT : Hid (∀ k, (gs (bK names.tail) k).size ≤ 100) := iN fun x hx => xh uj.out.1 (fun x hx => hz x (List.mem_of_mem_tail hx)) hx
 have oJ : Hid ((bK names.tail).length = (kD names.tail).length ∧ (bK names.tail).length ≤ 15 ∧ 1 ≤ (bK names.tail).length) := ⟨by unfold bK; rw [List.length_map], r6 uj.out.1, WJ uj.out.1 uj.out.2⟩
 have i0 : ¬ cap = 1 := by omega
 have i1 : (1 : Int) ≤ (names.length : Int) := by omega
 have i2 : 1 ≤ names.length := by omega
 clear h hc0 hz hok hhi hgz
 go_enter Tryz.func73, Tryz.ntmps73
 go_wp2_with fail
 refine QY.out.mono ?_
 rintro e w1 ⟨aX, tv, rfl, J5⟩
 obtain ⟨tp, tc, rfl, -, -⟩ := aD.open J5
 have HTV : Hid (av (fun b => S b ∨ w.heap.size ≤ b) w1 (.slice tp (bK names.tail).length tc) (bK names.tail)) := J5
 have bT := aa aX
 have y8 : Hid (EnI w1 names 0 (.slice none 0 0) w1) := ⟨Up.refl _, [], iZ.nil _ _, by simp⟩
 clear aX J5 QY
 go_wp2_with fail
 go_loopw [4, 6, 7, 8, 9, 14] (fun out _ _ _ _ i wr => ∃ n : Nat, n ≤ (bK names.tail).length ∧ i = .int .i64 n ∧ Hid (EnI w1 names n out wr)) (fun _ _ _ _ _ i _ => (bK names.tail).length - (intOf i).toNat)
 case atStart => exact ⟨0, Nat.zero_le _, rfl, y8.out⟩
 case round =>
  obtain ⟨n, hn, rfl, hI⟩ := hrel
  obtain ⟨wo, rfl⟩ : ∃ wo : World, wo = wr := ⟨_, rfl⟩
  obtain ⟨gH, es, hes, hem⟩ := hI.out
  have i3 : (0 : Int) ≤ (n : Int) := by omega
  by_cases hlt : n < (bK names.tail).length
  ·obtain ⟨tb, to', rfl, hct⟩ := cu (av.keep HTV.out (gH.kept _)) hlt
   have hnl : n < (kD names.tail).length := by rw [← oJ.out.1]; exact hlt
   obtain ⟨g1, g2⟩ := rts_gs hnl
   have FK := enF xC.out g2
   have hen : es.length = n := by
    have := congrArg List.length hem
    rw [List.length_map, List.length_map, List.length_take] at this
    omega
   have jP : Hid (((kD names.tail).take (n + 1)).map (uR names) = es.map (·.2) ++ [uR names (gB (kD names.tail) n)]) := by
    unfold Hid; rw [Mj hnl, List.map_append, hem]; rfl
   have z1 := HGZ.out
   have z2 : (gs (bK names.tail) n).size ≤ 100 := HZT.out n
   rw [g1] at hct z2
   have y9 : Hid (∀ W, Calls Tryz.prog 131 #[.string (nQ names (jt (gB (kD names.tail) n)))] W (yX W (nQ names (jt (gB (kD names.tail) n))))) := fun W => WH W _ FK.psz (ia_ok _ FK.psz)
   unfold nQ at y9
   have jS := aa FK
   have uq := aa hes
   have vS := aa hen
   have aY := aa hlt
   have vu := aa gH
   have cD := (bT.out.trans gH).cell fB.out
   have i4 : (n : Int) < ((bK names.tail).length : Int) := by omega
   have i5 : (n : Int) < 16 := by have := oJ.out.2.1; omega
   clear hI FK hes hen hem gH hlt hnl g1 g2
   generalize gB (kD names.tail) n = r at *
   go_wp2_with fail
   refine (y9.out wo).mono ?_
   rintro e w2 ⟨aK, pv, rfl, hpv⟩
   have hpe : uh (nQ names (jt r)) = 0 := by unfold uh; rw [jS.out.NQ]; exact jS.out.te
   have hpt : ri (nQ names (jt r)) = flat (btR (uB names r)) := by unfold ri; rw [jS.out.NQ]; simp [jS.out.te]
   unfold nQ at hpe hpt
   rw [hpe]
   have hpv : aC Any w2 pv (flat (btR (uB names r))) := by have h := hpv; unfold nQ at h; rw [hpt] at h; exact h
   obtain ⟨q0, xR⟩ : ∃ q0, q0 = flat (btR (uB names r)) := ⟨_, rfl⟩
   obtain ⟨q1, hq1⟩ : ∃ q1, q1 = flat (uR names r) := ⟨_, rfl⟩
   rw [← xR] at hpv
   obtain ⟨P2, N2, rfl, fP, fQ⟩ := hpv
   obtain ⟨pp, pc, rfl, -, -⟩ := aD.open fP
   obtain ⟨np, nc, rfl, -, -⟩ := aD.open fQ
   have fP : aB Any w2 (.slice pp q0.ps.length pc) q0.ps := fP
   have fQ : av Any w2 (.slice np q0.ns.length nc) q0.ns := fQ
   have bq := Up.alloc w2 (.cells #[.slice pp q0.ps.length pc, .slice np q0.ns.length nc] 39)
   have hb3 := fF (w := w2) (P := .slice pp q0.ps.length pc) (N := .slice np q0.ns.length nc) (T := 39)
   have hs3 : (w2.alloc (.cells #[.slice pp q0.ps.length pc, .slice np q0.ns.length nc] 39)).heap.size = w2.heap.size + 1 := World.size_alloc _ _
   have hl0 : q0.ps.length ≤ 1000000 ∧ q0.ns.length ≤ 1000000 := by have := jS.out.len; rw [xR, jG, pF]; omega
   have gK : q1.ps.length ≤ 1000000 ∧ q1.ns.length ≤ 1000000 := by have := jS.out.len; rw [hq1, jG, pF]; omega
   have EM := aa (H7 Any (w2.alloc (.cells #[.slice pp q0.ps.length pc, .slice np q0.ns.length nc] 39)) _ q0 (aC.keep ⟨_, _, rfl, fP, fQ⟩ (bq.kept _)) hl0.1 hl0.2 (by rw [xR]; exact jS.out.sz))
   have Mk : Hid (az q0 = 0 ∧ qT q0 = q1) := by unfold Hid; rw [xR, hq1]; exact ⟨jS.out.te, jS.out.can⟩
   have kU : Hid (xL q1 = 0 ∧ (⟨(ug q1).toArray⟩ : ByteArray) = aW (uR names r)) := by
    unfold Hid
    rw [hq1]
    refine ⟨by unfold xL; rw [if_neg (by simp [jS.out.te2])], ?_⟩
    unfold aW; rw [jS.out.tx]
   have oF : Hid (∀ W v, aC Any W v q1 → Calls Tryz.prog 36 #[v] W (Cz W q1)) := fun W v h => Ww Any W v q1 h gK.1 gK.2 (by rw [hq1]; exact jS.out.sz2)
   have dS := aa (aK.trans bq)
   have s5 := aa hb3
   have EN := aa hs3
   have q8 : Hid (wo.heap.size ≤ w2.heap.size) := aK.size
   have HQ1 := aa hq1
   obtain ⟨b0, b1, b2, b3⟩ := boxed hb3
   clear hpe hpt fP fQ bq hb3 hs3 hl0 gK aK xR hq1 cD hct y9 z1 z2
   go_wp2_with fail
   generalize w2.alloc (.cells #[.slice pp q0.ps.length pc, .slice np q0.ns.length nc] 39) = w3 at *
   refine EM.out.mono ?_
   rintro e w4 ⟨b9, ⟨mg, -⟩ | ⟨-, cv, rfl, P4, N4, rfl, dZ, en⟩⟩
   ·exact absurd Mk.out.1 mg
   rw [Mk.out.2] at dZ en
   obtain ⟨p4, c4, rfl, -, -⟩ := aD.open dZ
   obtain ⟨n4, d4, rfl, -, -⟩ := aD.open en
   have hb4 := (Below.block b9 w2.heap.size (by rw [EN.out]; omega)).trans s5.out
   have HB4 := aa hb4
   have mD := aa (dS.out.trans b9)
   have sM : Hid (aB (fun b => w3.heap.size ≤ b) w4 (.slice p4 q1.ps.length c4) q1.ps ∧ av (fun b => w3.heap.size ≤ b) w4 (.slice n4 q1.ns.length d4) q1.ns) := ⟨dZ, en⟩
   obtain ⟨b0, b1, b2, b3⟩ := boxed hb4
   clear hb4 b9 dZ en EM
   have HST := aa (dL (w := wo) (p := .slice p4 q1.ps.length c4) (q := .slice n4 q1.ns.length d4) HB4.out q8.out mD.out)
   go_wp2_with fail
   obtain ⟨u5, s0, s1, s2⟩ := HST.out
   have yh : aC (fun b => w3.heap.size ≤ b) ((w4.setCell ⟨w2.heap.size, 0, none⟩ (.slice p4 q1.ps.length c4)).setCell ⟨w2.heap.size, 1, none⟩ (.slice n4 q1.ns.length d4)) (.agg #[.slice p4 q1.ps.length c4, .slice n4 q1.ns.length d4]) q1 :=
    ⟨_, _, rfl, aB.keep sM.out.1 fun b hb _ => s2 b (by have := EN.out; omega), av.keep sM.out.2 fun b hb _ => s2 b (by have := EN.out; omega)⟩
   have qJ := aa yh
   have jQ := aa u5
   have HC5 := aa (And.intro s0 s1)
   clear yh u5 s0 s1 s2 HST sM b0 b1 b2 b3
   generalize (w4.setCell ⟨w2.heap.size, 0, none⟩ _).setCell ⟨w2.heap.size, 1, none⟩ _ = w5 at *
   refine (oF.out w5 _ (qJ.out.sub fun _ _ _ => trivial)).mono ?_
   rintro e w6 ⟨dH, rfl⟩
   rw [kU.out.1, kU.out.2]
   have b0 := dH.cell HC5.out.1
   have b1 := dH.cell HC5.out.2
   have Ml := aa (jQ.out.trans dH)
   have Fz := aa (qJ.out.keep (dH.kept _))
   have TK := uq.out.up Ml.out
   have TM := aa TK
   obtain ⟨op, oc, rfl⟩ := TK.form
   rw [vS.out]
   have TM : Hid (iZ w1.heap.size w6 (.slice op n oc) es) := by have h := TM.out; rw [vS.out] at h; exact h
   have AA : Hid (aC (fun b => some b ≠ (Value.slice op n oc).ownBlock) w6 (.agg #[.slice p4 q1.ps.length c4, .slice n4 q1.ns.length d4]) (flat (uR names r))) := by
    have h := Fz.out
    have hlt : ∀ b, (Value.slice op n oc).ownBlock = some b → b < wo.heap.size := fun b hb => by
     have h2 := uq.out.1
     rw [vS.out] at h2
     exact (World.ownsRow.lt h2 b hb).2
    rw [← HQ1.out]
    exact h.sub fun b hb _ e => by have h1 := hlt b e.symm; have h2 := q8.out; have h3 := EN.out; omega
   have bQ : Hid (w1.heap.size ≤ w6.heap.size) := (vu.out.trans Ml.out).size
   clear TK dH qJ Fz oF
   go_wp2_with (at_builtin; refine FX w6 rfl _ _ 94 rfl w1.heap.size _ 64 Tryz.underlying94 Tryz.WT rfl (by decide) TM.out rfl ((.slice p4 q1.ps.length c4, .slice n4 q1.ns.length d4), uR names r) rfl AA.out n vS.out (by have := aY.out; have := oJ.out.2.1; omega) bQ.out ?_; intro g8 iz w8 cA dw tE; have J6 := aa cA; have oQ := aa tE; clear cA dw tE)
   go_roundw
   case rel => exact ⟨n + 1, aY.out, by go_num, Below.trans (show Below w1.heap.size w1 w6 from vu.out.trans Ml.out) oQ.out, _, J6.out, by rw [jP.out, List.map_append]; rfl⟩
   case measure => have := aY.out; simp [intOf]; omega
  ·obtain rfl : n = (bK names.tail).length := by omega
   have i4 : ¬ ((bK names.tail).length : Int) < ((bK names.tail).length : Int) := by omega
   have hes' := iZ.up hes (Up.refl wo)
   obtain ⟨op, oc, rfl⟩ := hes'.form
   have tF : es.map (·.2) = (rt names.length names.tail).map (uR names) := by
    rw [hem, oJ.out.1, List.take_length]
    have : rt names.length names.tail = kD names.tail := pY _ _ _ (by simp) (Nat.le_refl _)
    rw [this]
   have kP : es.length = (bK names.tail).length := by
    have := congrArg List.length hem
    rw [List.length_map, List.length_map, oJ.out.1, List.take_length] at this
    rw [oJ.out.1]; exact this
   have hne : es ≠ [] := fun e => by rw [e] at kP; have := oJ.out.2.2; simp at kP; omega
   have Zx := aa (QV hes hne (by rw [kP]; have := oJ.out.2.1; omega))
   have uq := aa hes
   have QZ := aa tF
   have vu := aa gH
   clear hI hes hes' hem tF gH hlt hne kP
   go_wp2_with fail
   refine Zx.out.mono ?_
   rintro e w9 ⟨rfl, hg9, es', VG, CM, g9, c9, hv9, Mi⟩
   have oT : Hid (J2 w names (.returned (.tuple #[.slice op es.length oc, .int .i64 0])) w9) := by
    have hB : Below w1.heap.size w1 w9 := Below.grown (show Below w1.heap.size w1 wo from vu.out) hg9 vu.out.size fun k hk => (World.ownsRow.lt uq.out.1 k hk).1
    have Ab : (es'.map (·.2)) = bD names := by
     refine xe (((VG.map (·.2)).trans (List.Perm.of_eq QZ.out)).trans (lF _).symm) CM (uI _) fun r hr => ?_
     have hr2 : r ∈ bD names := (lF _).mem_iff.2 (QZ.out ▸ (VG.map (·.2)).mem_iff.1 hr)
     exact (fJ xC.out hr2).1.good.jm
    refine ⟨?_, _, rfl, g9, c9, es', ?_, Ab, Mi, ?_⟩
    ·exact Up.trans bT.out hB
    ·rw [hv9, ← Ab, List.length_map]
    ·intro x hx
     have h1 := uq.out.2 x (VG.mem_iff.1 hx)
     exact (h1.keep fun b hb hlt => hg9.block b hlt hb).sub fun _ _ _ => trivial
   clear hg9 VG CM hv9 Mi
   go_wp2_with fail
   go_ret2
   exact oT.out
end
section
open Go.RowKit Go.Deep
set_option maxHeartbeats 400000 in
theorem Q0 (s : ByteArray) (hs : s.size ≤ 70000) (w : World) : Calls Tryz.prog 150 #[.string s] w fun e w' => e = .returned (.bool (aZ s.data.toList)) ∧ Below w.heap.size w w' := by
 go_enter Tryz.func150, Tryz.ntmps150
 go_wp2_with fail
 ·have hf := aa (BN s (by omega) (by omega) ‹_›)
  refine (k7 _ (by simp; omega) _).mono ?_
  rintro e w1 ⟨rfl, hb⟩
  rw [← hf.out]
  go_wp2_with fail
  go_ret
  exact ⟨rfl, hb⟩
 ·have hf := aa (FY s (by omega) (by omega) ‹_›)
  go_ret
  exact ⟨bw (by rw [hf.out]), Below.refl _ _⟩
 ·have hf := aa (zR s (by omega) ‹_›)
  refine (k7 _ hs _).mono ?_
  rintro e w1 ⟨rfl, hb⟩
  rw [← hf.out]
  go_wp2_with fail
  go_ret
  exact ⟨rfl, hb⟩
 ·have hf := aa (Ee s (by omega))
  refine (k7 _ hs _).mono ?_
  rintro e w1 ⟨rfl, hb⟩
  rw [← hf.out]
  go_wp2_with fail
  go_ret
  exact ⟨rfl, hb⟩
set_option maxHeartbeats 400000 in
theorem NT (S : Nat → Prop) (w : World) (v : Value) (names : List ByteArray) (s : ByteArray) (h : av S w v names) (hn : names.length ≤ 1000000) :
  Calls Tryz.prog 151 #[v, .string s] w fun e w' => e = .returned (.int .i64 (iI names s)) ∧ w = w' := by
 obtain ⟨p, cap, rfl, hcap, -⟩ := aD.open h
 have h : av S w (.slice p names.length cap) names := h
 have HF : Hid (iI names s = bW (fun j => decide (s = gs names j)) names.length) := rfl
 have HN := aa h
 clear h
 go_enter Tryz.func151, Tryz.ntmps151
 go_wp2_with fail
 go_loop [4, 5] (fun _ i => ∃ k : Nat, k ≤ names.length ∧ i = .int .i64 k ∧ Hid (∀ j, j < k → decide (s = gs names j) = false)) (fun _ i => names.length - (intOf i).toNat)
 case atStart => exact ⟨0, Nat.zero_le _, rfl, fun j hj => absurd hj (Nat.not_lt_zero _)⟩
 case round =>
  obtain ⟨k, hk, rfl, hd⟩ := hrel
  by_cases hlt : k < names.length
  ·obtain ⟨b, off, rfl, hc⟩ := cu HN.out hlt
   have rj : Hid (decide (s = gs names k) = true → (k : Int) = iI names s) := fun h1 => by rw [HF.out]; exact (iO (p := fun j => decide (s = gs names j)) hlt hd.out h1).symm
   have HX : Hid (∀ j, j < k + 1 → ¬ j = k → decide (s = gs names j) = false) := fun j hj h1 => hd.out j (by omega)
   have HK : Hid (∀ j, j < k + 1 → decide (s = gs names k) = false → decide (s = gs names j) = false) := fun j hj h1 => if e : j = k then by subst e; exact h1 else HX.out j hj e
   generalize gs names k = nm at *
   go_wp2_with fail
   ·have hx := Dj ‹(nm.toList == s.toList) = true›
    go_ret
    exact ⟨aO (rj.out (by simpa using hx.symm)), rfl⟩
   ·have hx := Gr ‹(nm.toList == s.toList) = false›
    go_round
    case rel => exact ⟨k + 1, by omega, by go_num, fun j hj => HK.out j hj (by simpa using fun e => hx e.symm)⟩
    case measure => simp [intOf]; omega
  ·obtain rfl : k = names.length := by omega
   have HE : Hid (iI names s = -1) := by unfold Hid; rw [HF.out]; exact gu hd.out
   go_wp2_with fail
   go_ret
   exact ⟨aO HE.out.symm, rfl⟩
end
section
def l8 (L : List ByteArray) : List (BT ByteArray) := rf L.length L
def bJ (L : List ByteArray) : List ByteArray := (l8 L).map jt
def eA (L : List ByteArray) (bits : Nat) : List ByteArray := gs L 0 :: bB (fun i => bits.testBit i) L.tail (L.length - 1)
def eB (L : List ByteArray) (bits : Nat) : List ByteArray := bB (fun i => !bits.testBit i) L.tail (L.length - 1)
def Da (L : List ByteArray) (bits : Nat) : List ByteArray := (bJ (eA L bits)).flatMap fun s => (bJ (eB L bits)).map fun t => pairT s t
theorem Bw (L : List ByteArray) : (kD L).Perm (l8 L) := Mx _ _
theorem J7 (L : List ByteArray) : (bK L).Perm (bJ L) := (Bw L).map jt
theorem Q1 (L : List ByteArray) {bits : Nat} (h : bits < 2 ^ (L.length - 1) - 1) : eA L bits = dA L (2 ^ (L.length - 1) - 1 - bits) ∧ eB L bits = dB L (2 ^ (L.length - 1) - 1 - bits) := by
 have e1 : ∀ i, i < L.length - 1 → (2 ^ (L.length - 1) - 1 - bits).testBit i = !bits.testBit i := fun i hi => by
  have := Nat.testBit_two_pow_sub_succ (x := bits) (n := L.length - 1) (by omega) i
  rw [show 2 ^ (L.length - 1) - 1 - bits = 2 ^ (L.length - 1) - (bits + 1) by omega, this]
  simp [hi]
 unfold eA eB dA dB
 rw [qb (p := fun i => !(2 ^ (L.length - 1) - 1 - bits).testBit i) (q := fun i => bits.testBit i) fun i hi => by rw [e1 i hi, Bool.not_not], qb (p := fun i => (2 ^ (L.length - 1) - 1 - bits).testBit i) (q := fun i => !bits.testBit i) e1]
 exact ⟨rfl, rfl⟩
theorem e_len {L : List ByteArray} (h : 2 ≤ L.length) {bits : Nat} (h2 : bits < 2 ^ (L.length - 1) - 1) : (eA L bits).length < L.length ∧ 1 ≤ (eA L bits).length ∧ (eB L bits).length < L.length ∧ 1 ≤ (eB L bits).length := by
 obtain ⟨e1, e2⟩ := Q1 L h2
 rw [e1, e2]
 exact ND h (by omega) (by omega)
theorem mem_e {L : List ByteArray} {bits : Nat} (h : 1 ≤ L.length) (h2 : bits < 2 ^ (L.length - 1) - 1) : (∀ x ∈ eA L bits, x ∈ L) ∧ ∀ x ∈ eB L bits, x ∈ L := by
 obtain ⟨e1, e2⟩ := Q1 L h2
 rw [e1, e2]
 exact NF h
theorem zG : ∀ (d e : Nat) (L : List ByteArray), L.length ≤ d → L.length ≤ e → rf d L = rf e L
 | 0, e, L, h, _ => by
  have : L = [] := List.eq_nil_of_length_eq_zero (by omega)
  subst this
  cases e <;> rfl
 | d + 1, 0, L, _, h => by
  have : L = [] := List.eq_nil_of_length_eq_zero (by omega)
  subst this; rfl
 | _ + 1, _ + 1, [], _, _ => rfl
 | _ + 1, _ + 1, [x], _, _ => rfl
 | d + 1, e + 1, x :: y :: L, h1, h2 => by
  rw [rf, rf]
  refine jl fun bits hb => ?_
  have hb := List.mem_range.1 hb
  have hd := e_len (L := x :: y :: L) (by simp) (bits := bits) (by have : (x :: y :: L).length - 1 = (y :: L).length := rfl; rw [this]; omega)
  have ea : eA (x :: y :: L) bits = x :: bB (fun i => bits.testBit i) (y :: L) (y :: L).length := rfl
  have eb : eB (x :: y :: L) bits = bB (fun i => !bits.testBit i) (y :: L) (y :: L).length := rfl
  rw [← ea, ← eb]
  simp only [List.length_cons] at hd h1 h2
  rw [zG d e (eA _ _) (by omega) (by omega), zG d e (eB _ _) (by omega) (by omega)]
theorem WU (x : ByteArray) : bJ [x] = [x] := by
 unfold bJ l8
 rw [List.length_singleton, rf, List.map_singleton, Bo]
theorem rfT_eq {L : List ByteArray} (h : 2 ≤ L.length) : bJ L = (List.range (2 ^ (L.length - 1) - 1)).flatMap (Da L) := by
 obtain ⟨x, y, L, rfl⟩ : ∃ x y L', L = x :: y :: L' := by
  cases L with
  | nil => simp at h
  | cons x L =>
   cases L with
   | nil => simp at h
   | cons y L => exact ⟨x, y, L, rfl⟩
 unfold bJ l8
 have e1 : (x :: y :: L).length = (y :: L).length + 1 := rfl
 rw [e1, rf, List.map_flatMap, Nat.add_sub_cancel]
 refine jl fun bits hb => ?_
 have hb := List.mem_range.1 hb
 have hd := e_len (L := x :: y :: L) h (bits := bits) (by have : (x :: y :: L).length - 1 = (y :: L).length := rfl; rw [this]; omega)
 unfold Da bJ
 rw [List.map_flatMap, List.flatMap_map]
 have ea : eA (x :: y :: L) bits = x :: bB (fun i => bits.testBit i) (y :: L) (y :: L).length := rfl
 have eb : eB (x :: y :: L) bits = bB (fun i => !bits.testBit i) (y :: L) (y :: L).length := rfl
 rw [← ea, ← eb]
 have f1 : rf (y :: L).length (eA (x :: y :: L) bits) = l8 (eA (x :: y :: L) bits) := zG _ _ _ (by simp only [List.length_cons] at hd ⊢; omega) (Nat.le_refl _)
 have f2 : rf (y :: L).length (eB (x :: y :: L) bits) = l8 (eB (x :: y :: L) bits) := zG _ _ _ (by simp only [List.length_cons] at hd ⊢; omega) (Nat.le_refl _)
 rw [f1, f2]
 refine jl fun a _ => ?_
 rw [List.map_map, List.map_map]
 refine List.map_congr_left fun b _ => ?_
 exact Bp a b
theorem p6 {L : List ByteArray} (h : L.length ≤ 4) : (bJ L).length ≤ 15 := by
 rw [← (J7 L).length_eq]; exact r6 h
theorem Bz {L : List ByteArray} (h : L.length ≤ 4) (hz : ∀ x ∈ L, x.size ≤ 20) {s : ByteArray} (hs : s ∈ bJ L) : s.size ≤ 100 := xh h hz ((J7 L).mem_iff.2 hs)
def qN (L : List ByteArray) (n : Nat) : List ByteArray := (List.range n).flatMap (Da L)
theorem TN (L : List ByteArray) (n : Nat) : qN L (n + 1) = qN L n ++ Da L n := by
 unfold qN; rw [List.range_succ, List.flatMap_append]; simp
theorem WV {L : List ByteArray} {bits : Nat} (ha : (eA L bits).length ≤ 4) (hb : (eB L bits).length ≤ 4) : (Da L bits).length ≤ 225 := by
 unfold Da
 have h1 := p6 ha
 have h2 := p6 hb
 have h3 := mY (f := fun s => (bJ (eB L bits)).map fun t => pairT s t) (K := 15) (bJ (eA L bits)) fun s _ => by rw [List.length_map]; exact h2
 have h4 : (bJ (eA L bits)).length * 15 ≤ 15 * 15 := Nat.mul_le_mul_right _ h1
 omega
theorem WW {L : List ByteArray} (h2 : 2 ≤ L.length) (h : L.length ≤ 4) {n : Nat} (hn : n ≤ 2 ^ (L.length - 1) - 1) : (qN L n).length ≤ n * 225 := by
 unfold qN
 have h1 := mY (f := Da L) (K := 225) (List.range n) fun b hb => by
  have hb := List.mem_range.1 hb
  have he := e_len h2 (bits := b) (by omega)
  exact WV (by omega) (by omega)
 rw [List.length_range] at h1
 exact h1
def ry (L : List ByteArray) (bits n : Nat) : List ByteArray := ((bJ (eA L bits)).take n).flatMap fun s => (bJ (eB L bits)).map fun t => pairT s t
theorem TP (L : List ByteArray) (bits : Nat) {n : Nat} (h : n < (bJ (eA L bits)).length) : ry L bits (n + 1) = ry L bits n ++ (bJ (eB L bits)).map fun t => pairT (gs (bJ (eA L bits)) n) t := by
 have hg : gs (bJ (eA L bits)) n = (bJ (eA L bits))[n] := by simp [gs, h]
 unfold ry
 rw [List.take_succ_eq_append_getElem h, List.flatMap_append, hg]; simp
theorem WX (L : List ByteArray) (bits : Nat) : ry L bits (bJ (eA L bits)).length = Da L bits := by unfold ry Da; rw [List.take_length]
theorem WY {L : List ByteArray} {bits n : Nat} (ha : (eA L bits).length ≤ 4) (hb : (eB L bits).length ≤ 4) : (ry L bits n).length ≤ 225 := by
 unfold ry
 have h1 := p6 ha
 have h2 := p6 hb
 have h3 := mY (f := fun s => (bJ (eB L bits)).map fun t => pairT s t) (K := 15) ((bJ (eA L bits)).take n) fun s _ => by rw [List.length_map]; exact h2
 rw [List.length_take] at h3
 have h4 : (min n (bJ (eA L bits)).length) * 15 ≤ 15 * 15 := Nat.mul_le_mul_right _ (by omega)
 omega
def za (L : List ByteArray) (bits n : Nat) : List ByteArray := gs L 0 :: bB (fun i => bits.testBit i) L.tail n
def zb (L : List ByteArray) (bits n : Nat) : List ByteArray := bB (fun i => !bits.testBit i) L.tail n
theorem TQ (L : List ByteArray) (bits n : Nat) (h : n + 1 < L.length) : za L bits (n + 1) = za L bits n ++ (if bits.testBit n then [gs L (n + 1)] else []) ∧ zb L bits (n + 1) = zb L bits n ++ (if bits.testBit n then [] else [gs L (n + 1)]) := by
 have hg : L.tail.getD n default = gs L (n + 1) := by
  unfold gs
  cases L with
  | nil => simp at h
  | cons a l =>
   have hl : n < l.length := by simpa using h
   simp [hl]
 unfold za zb
 rw [iQ, iQ, hg]
 cases bits.testBit n <;> simp
theorem Mm (L : List ByteArray) (bits : Nat) : za L bits (L.length - 1) = eA L bits ∧ zb L bits (L.length - 1) = eB L bits := ⟨rfl, rfl⟩
theorem ins_at {q : RT} {xs : List RT} (hs : xs.Pairwise fM) {k : Nat} (hk : k ≤ xs.length) (hhi : ∀ j, k ≤ j → j < xs.length → ¬ fM (xs.getD j (.node ByteArray.empty [])) q) (hlo : k = 0 ∨ fM (xs.getD (k - 1) (.node ByteArray.empty [])) q) : (xs.take k ++ q :: xs.drop k).Perm (q :: xs) ∧ (xs.take k ++ q :: xs.drop k).Pairwise fM := by
 constructor
 ·refine List.perm_middle.trans ?_
  rw [List.take_append_drop]
 ·have hs2 := hs
  rw [← List.take_append_drop k xs, List.pairwise_append] at hs2
  obtain ⟨h1, h2, h3⟩ := hs2
  rw [List.pairwise_append, List.pairwise_cons]
  have hd : ∀ b ∈ xs.drop k, fM q b := fun b hb => by
   obtain ⟨j, hj, e⟩ := List.mem_iff_getElem.1 hb
   rw [List.length_drop] at hj
   rw [List.getElem_drop] at e
   have := hhi (k + j) (by omega) (by omega)
   rw [List.getD_eq_getElem?_getD, List.getElem?_eq_getElem (by omega), Option.getD_some, e] at this
   exact fM.total this
  have ht : ∀ a ∈ xs.take k, fM a q := fun a ha => by
   rcases hlo with e | h
   ·subst e; simp at ha
   ·obtain ⟨j, hj, e⟩ := List.mem_iff_getElem.1 ha
    rw [List.length_take] at hj
    rw [List.getElem_take] at e
    rw [List.getD_eq_getElem?_getD, List.getElem?_eq_getElem (by omega), Option.getD_some] at h
    by_cases ej : j = k - 1
    ·subst ej; rw [← e]; exact h
    ·have := List.pairwise_iff_getElem.1 hs j (k - 1) (by omega) (by omega) (by omega)
     rw [e] at this
     exact this.trans h
  exact ⟨h1, ⟨hd, h2⟩, fun a ha b hb => by
   rcases List.mem_cons.1 hb with rfl | hb
   ·exact ht a ha
   ·exact (ht a ha).trans (hd b hb)⟩
theorem NU {names : List ByteArray} (hn : fT names) {q : RT} (hq : q ∈ bD names) : (aW q).size ≤ 1000 ∧ uh (aW q) = 0 ∧ ri (aW q) = flat q := by
 obtain ⟨h1, h2, h3, h4, h5, h6⟩ := fJ hn hq
 have hg := h1.good
 have hp : jr (aW q).data.toList = some q := by
  have e : (aW q).data.toList = txR q ++ [59] := by unfold aW cn; simp
  rw [e]; exact vA hg.jm
 refine ⟨?_, by unfold uh; rw [hp]; exact h5, by unfold ri; rw [hp]; simp [h5]⟩
 have hl := zA (M := 20) q fun s hs => by
  rw [lR] at hs
  obtain ⟨u, hu, rfl⟩ := List.mem_map.1 hs
  by_cases e : u.kids = []
  ·exact r7 (hg.lf u hu e)
  ·rw [hg.sR u hu e]; exact Nat.zero_le _
 have hs : (aW q).size = (cn q).length := by unfold aW; rw [← size_data]
 have hk : (cn q).length = (txR q).length + 1 := by unfold cn; simp
 have := hn.hi
 have h9 : aI q * (20 + 3) ≤ 9 * 23 := Nat.mul_le_mul_right _ (by omega)
 omega
theorem rf_all {names : List ByteArray} (hn : fT names) {qs : List RT} (hp : qs.Perm ((l8 names.tail).map (uR names))) (hs : qs.Pairwise fM) : qs = bD names := by
 have h1 : ((l8 names.tail).map (uR names)).Perm ((rt names.length names.tail).map (uR names)) := by
  have : rt names.length names.tail = kD names.tail := pY _ _ _ (by simp) (Nat.le_refl _)
  rw [this]
  exact ((Bw _).symm).map _
 refine xe (hp.trans (h1.trans (lF _).symm)) hs (uI _) fun r hr => ?_
 have hr2 : r ∈ bD names := (lF _).mem_iff.2 (h1.mem_iff.1 (hp.mem_iff.1 hr))
 exact (fJ hn hr2).1.good.jm
end
end Go.Proofs.YteegefnjnikngaaGreat
