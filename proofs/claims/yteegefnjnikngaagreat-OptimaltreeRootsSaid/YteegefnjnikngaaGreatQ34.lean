/- The contract of phylotree.Reroot. -/
import Derived.Test.YteegefnjnikngaaGreatQ1
import Derived.Test.YteegefnjnikngaaGreatQ33
import Derived.Test.YteegefnjnikngaaGreatQ4
set_option maxRecDepth 100000
namespace Go.Proofs.YteegefnjnikngaaGreat
open Go.RowKit Go.Deep
def rR (t : ax) (leaf : Int) : Int := if az t ≠ 0 then 1 else if leaf < 0 ∨ (t.ps.length : Int) ≤ leaf then 2 else if (gs t.ns leaf.toNat).size = 0 then 8 else 0
def CJ (t : ax) (leaf : Int) : ax := flat (sortR (contrR (yV t leaf.toNat)))
def mI (t : ax) (leaf : Int) : Int := if rR t leaf ≠ 0 then rR t leaf else if 64 < (CJ t leaf).ps.length then 4 else 0
def xd (t : ax) (leaf : Int) : ax := if mI t leaf ≠ 0 then ⟨[], []⟩ else CJ t leaf
theorem WD (t : ax) (leaf f z : Nat) : (Fs t leaf f z).length ≤ t.ps.length + 2 := by
 have hk : (aQ t.ps z).length ≤ t.ps.length := jE t z
 unfold Fs
 split
 ·split <;> simp
 ·split
  ·have := List.length_filter_le (fun k => !cg t leaf k) (aQ t.ps z)
   rw [List.length_append]
   split
   ·simp; omega
   ·simp; omega
  ·omega
def Jr (w : World) (t : ax) (leaf : Int) (e : Ending) (w' : World) : Prop :=
 Up w w' ∧ ∃ v, e = .returned (.tuple #[v, .int .i64 (mI t leaf)]) ∧ aC Any w' v (xd t leaf)
theorem CK {w W : World} {B : Nat} {t : ax} {leaf : Int} {c : Int} (hB : w.heap.size ≤ B) (hu : Up w W) (hb : W.heap[B]? = some (Obj.cells #[.slice none 0 0, .slice none 0 0] 39 (0, 0))) (hc : rR t leaf = c) (h0 : c ≠ 0) :
    ((W.setCell ⟨B, 0, none⟩ (.slice none 0 0)).setCell ⟨B, 1, none⟩ (.slice none 0 0)).cell? ⟨B, 0, none⟩ = some (.slice none 0 0) ∧ ((W.setCell ⟨B, 0, none⟩ (.slice none 0 0)).setCell ⟨B, 1, none⟩ (.slice none 0 0)).cell? ⟨B, 1, none⟩ = some (.slice none 0 0) ∧
      Jr w t leaf (.returned (.tuple #[.agg #[.slice none 0 0, .slice none 0 0], .int .i64 c])) ((W.setCell ⟨B, 0, none⟩ (.slice none 0 0)).setCell ⟨B, 1, none⟩ (.slice none 0 0)) := by
  obtain ⟨s1, s2, s3, s4⟩ := dL (p := .slice none 0 0) (q := .slice none 0 0) hb hB hu
  have Vh : mI t leaf = c := by unfold mI; rw [if_pos (by rw [hc]; exact h0), hc]
  refine ⟨s2, s3, s1, .agg #[.slice none 0 0, .slice none 0 0], by rw [Vh], ?_⟩
  unfold xd; rw [if_pos (by rw [Vh]; exact h0)]; exact wG _
set_option maxHeartbeats 8000000 in
theorem Tk (S : Nat → Prop) (w : World) (v : Value) (t : ax) (leaf : Int) (hT : aC S w v t) (hp : t.ps.length ≤ 1000000) (hn : t.ns.length ≤ 1000000) (hz : ∀ k, (gs t.ns k).size ≤ 70000) :
  Calls Tryz.prog 55 #[v, .int .i64 leaf] w (Jr w t leaf) := by
 obtain ⟨P, N, rfl, hP, hN⟩ := hT
 obtain ⟨pp, pc, rfl, _, _⟩ := aD.open hP
 obtain ⟨pn, pm, rfl, _, _⟩ := aD.open hN
 have hP : aB S w (.slice pp t.ps.length pc) t.ps := hP
 have hN : av S w (.slice pn t.ns.length pm) t.ns := hN
 have ha := Up.alloc w (.cells #[.slice pp t.ps.length pc, .slice pn t.ns.length pm] 39)
 have hc := Up.alloc (w.alloc (.cells #[.slice pp t.ps.length pc, .slice pn t.ns.length pm] 39)) (.cells #[.slice none 0 0, .slice none 0 0] 39)
 have fB := aa (hc.cell (ew w (.slice pp t.ps.length pc) (.slice pn t.ns.length pm) 39))
 have jN := aa (hc.cell (ey w (.slice pp t.ps.length pc) (.slice pn t.ns.length pm) 39))
 have hrb := fF (w := w.alloc (.cells #[.slice pp t.ps.length pc, .slice pn t.ns.length pm] 39)) (P := .slice none 0 0) (N := .slice none 0 0) (T := 39)
 have hsz : ((w.alloc (.cells #[.slice pp t.ps.length pc, .slice pn t.ns.length pm] 39)).alloc (.cells #[.slice none 0 0, .slice none 0 0] 39)).heap.size = w.heap.size + 2 := by simp
 rw [World.size_alloc] at hrb
 have hu := ha.trans hc
 have HU := aa hu
 have xI : Hid (aC S _ _ t) := aC.keep ⟨_, _, rfl, hP, hN⟩ (hu.kept S)
 have Qq := aa (av.keep hN (hu.kept S))
 have Qj := aa (aB.keep hP (hu.kept S))
 have jA := aa hrb
 have bQ := aa hsz
 have HZ := aa hz
 have Vi : Hid (rR t leaf = if az t ≠ 0 then 1 else if leaf < 0 ∨ (t.ps.length : Int) ≤ leaf then 2 else if (gs t.ns leaf.toNat).size = 0 then 8 else 0) := rfl
 have hc0 := fB.out
 have hc1 := jN.out
 have fA := aa (oV S _ _ t xI.out hp hn hz)
 clear ha hc hu hP hN hrb hsz hz
 go_enter Tryz.func55, Tryz.ntmps55
 go_wp2_with fail
 generalize (w.alloc (.cells #[.slice pp t.ps.length pc, .slice pn t.ns.length pm] 39)).alloc (.cells #[.slice none 0 0, .slice none 0 0] 39) = w1 at *
 refine fA.out.mono ?_
 rintro e w2 ⟨rfl, aK⟩
 have aK : Up w1 w2 := aK
 have bH := aa aK
 have jC := aa (HU.out.trans aK)
 have hc0 := aK.cell fB.out
 have hc1 := aK.cell jN.out
 have jg := (Below.block aK (w.heap.size + 1) (by rw [bQ.out]; omega)).trans jA.out
 obtain ⟨q0, q1, q2, q3⟩ := boxed jg
 have fu := aa jg
 clear aK jg fA
 by_cases he : az t = 0
 ·obtain ⟨ni, AZ, hnl, hok, _⟩ := aH he
  have qI := aa he
  rw [he]
  have Nu : Hid (rR t leaf = if leaf < 0 ∨ (t.ps.length : Int) ≤ leaf then 2 else if (gs t.ns leaf.toNat).size = 0 then 8 else 0) := by rw [Hid, Vi.out, if_neg (by simp [he])]
  have iX := aa hnl
  clear he Vi hnl hok
  by_cases c1 : leaf < 0
  ·have e1 : decide (leaf < 0) = true := decide_eq_true c1
   have HST := aa (CK (c := 2) (by omega) jC.out fu.out (by rw [Nu.out, if_pos (.inl c1)]) (by decide))
   clear c1
   go_wp2_with fail
   obtain ⟨s2, s3, hp⟩ := HST.out
   exact ⟨rfl, .tuple #[.agg #[.slice none 0 0, .slice none 0 0], .int .i64 2], by simp [results, Tryz.results55, go_sem, s2, s3], hp⟩
  ·have e1 : decide (leaf < 0) = false := decide_eq_false c1
   by_cases c2 : (t.ps.length : Int) ≤ leaf
   ·have e2 : decide ((t.ps.length : Int) ≤ leaf) = true := decide_eq_true c2
    have HST := aa (CK (c := 2) (by omega) jC.out fu.out (by rw [Nu.out, if_pos (.inr c2)]) (by decide))
    clear c1 c2
    go_wp2_with fail
    obtain ⟨s2, s3, hp⟩ := HST.out
    exact ⟨rfl, .tuple #[.agg #[.slice none 0 0, .slice none 0 0], .int .i64 2], by simp [results, Tryz.results55, go_sem, s2, s3], hp⟩
   ·obtain ⟨q, rfl⟩ : ∃ q : Nat, leaf = q := ⟨leaf.toNat, by omega⟩
    have e2 : decide ((t.ps.length : Int) ≤ (q : Int)) = false := decide_eq_false c2
    have e2n : decide (t.ps.length ≤ q) = false := decide_eq_false (by omega)
    have e2p : ¬ t.ps.length ≤ q := by omega
    have L4 : q < t.ns.length := by have := iX.out; omega
    have B3 := aa (av.keep Qq.out (bH.out.kept S))
    obtain ⟨nb, no, hnb, mC⟩ := cu B3.out L4
    have n1 : (0 : Int) ≤ (q : Int) := by omega
    have n2 : (q : Int) < (t.ns.length : Int) := by omega
    have L5 : Hid (rR t q = if (gs t.ns q).size = 0 then 8 else 0) := by
     rw [Hid, Nu.out, if_neg (by omega)]; rfl
    have CL : Hid (q < t.ps.length) := by unfold Hid; omega
    subst hnb
    clear c1 c2 Nu e2p
    by_cases c3 : (gs t.ns q).size = 0
    ·have e3 : ((gs t.ns q).toList == []) = true := by
      rw [(toList_nil _).2 c3]; rfl
     have HST := aa (CK (c := 8) (by omega) jC.out fu.out (by rw [L5.out, if_pos c3]) (by decide))
     clear c3
     generalize gs t.ns q = nm at *
     go_wp2_with fail
     obtain ⟨s2, s3, hp⟩ := HST.out
     exact ⟨rfl, .tuple #[.agg #[.slice none 0 0, .slice none 0 0], .int .i64 8], by simp [results, Tryz.results55, go_sem, s2, s3], hp⟩
    ·have e3 : ((gs t.ns q).toList == []) = false := by
      rw [beq_eq_false_iff_ne]
      exact fun h => c3 ((toList_nil _).1 h)
     have ym : Hid (rR t q = 0) := by rw [Hid, L5.out, if_neg c3]
     have L6 : Hid (aR t q) := ⟨qI.out, CL.out, c3⟩
     have q9 := aa (aC.keep xI.out (bH.out.kept S))
     have Hg := aa (aB.keep Qj.out (bH.out.kept S))
     obtain ⟨_, _, hnl, hok, _⟩ := aH qI.out
     have Fo := aa (Hl S w2 _ t q9.out (by omega) hnl hok HZ.out)
     clear c3 hnl hok L5 xI Qq Qj
     generalize gs t.ns q = nm at *
     go_wp2_with fail
     refine Fo.out.mono ?_
     rintro e w3 ⟨cF, g, A, kv, tN, rfl, hF, hrow⟩
     have hl0 := hrow.cell (i := q) CL.out
     have hgw := hrow.lt
     obtain ⟨bP, oP, hbP, kQ⟩ := eE (aB.keep Hg.out (cF.kept S)) CL.out
     subst hbP
     have Js := cF.cell hc0
     have PO := aa (Nt hF hgw CL.out ⟨#[]⟩ 0 (q : Int))
     have dS := aa cF
     have Dn := aa hrow
     have HC03 := aa Js
     have HP3 := aa (aB.keep Hg.out (cF.kept S))
     have Ar := aa tN
     have i1 : (0 : Int) ≤ (q : Int) := by omega
     have i2 : (q : Int) < (t.ps.length : Int) := by have := CL.out; omega
     unfold aL at PO
     simp only [aL] at hl0
     have qX := (Below.block cF (w.heap.size + 1) (by have := bH.out.size; rw [bQ.out] at this; omega)).trans fu.out
     have Dx := aa qX
     clear cF hF hrow Fo q0 q1 q2 q3 qX
     go_wp2_with fail
     refine cU (by kernel_rfl) 9 (fun w' => w'.cell? ⟨w.heap.size, 0, none⟩ = some (.slice (some ⟨bP, oP, none⟩) t.ps.length pc) ∧ w'.cell? ⟨bP, oP + q, none⟩ = some (.int .i64 (gi t.ps q))) ⟨((Up.alloc _ _).trans (Up.alloc _ _)).cell Js, ((Up.alloc _ _).trans (Up.alloc _ _)).cell kQ⟩ (fun hS => ?_)
     simp only [List.size_toArray, List.length_cons, List.length_nil, Nat.reduceAdd, Array.replicate_succ, Array.replicate_zero, List.push_toArray, List.nil_append, List.cons_append]
     refine af.take (i := 0) (v := ?qc) rfl (by kernel_rfl) (fun _ _ _ h => h) (by rfl) (fun w hSw => ?gp) hS ?qd
     case gp =>
      (try dsimp only at hSw)
      go_simp
      try with_reducible rfl
     try simp only [Act.put, aq, ah, au]
     refine af.take (i := 1) (v := ?qf) rfl (by kernel_rfl) (fun _ _ _ h => h) (by rfl) (fun w hSw => ?gq) hS ?qg
     case gq =>
      (try dsimp only at hSw)
      go_simp
      try with_reducible rfl
     try simp only [Act.put, aq, ah, au]
     refine af.take (i := 2) (v := ?rG) rfl (by kernel_rfl) (fun _ _ _ h => h) (by rfl) (fun w hSw => ?gN) hS ?rH
     case gN =>
      (try dsimp only at hSw)
      go_simp
      try with_reducible rfl
     try simp only [Act.put, aq, ah, au]
     refine af.take (i := 3) (v := ?rI) rfl (by kernel_rfl) (fun _ _ _ h => h) (by rfl) (fun w hSw => ?gO) hS ?rJ
     case gO =>
      (try dsimp only at hSw)
      go_simp
      try with_reducible rfl
     try simp only [Act.put, aq, ah, au]
     refine af.take (i := 4) (v := ?rK) rfl (by kernel_rfl) (fun _ _ _ h => h) (by rfl) (fun w hSw => ?gP) hS ?rL
     case gP =>
      (try dsimp only at hSw)
      go_simp
      try with_reducible rfl
     try simp only [Act.put, aq, ah, au]
     refine af.take (i := 5) (v := ?rM) rfl (by kernel_rfl) (fun _ _ _ h => h) (by rfl) (fun w hSw => ?gQ) hS ?rN
     case gQ =>
      (try dsimp only at hSw)
      go_simp
      try with_reducible rfl
     try simp only [Act.put, aq, ah, au]
     refine af.step (i := 6) rfl (by kernel_rfl) (fun K' hK => ?_)
     go_simp
     refine hK.out _ _ (fun _ => ⟨(((Up.alloc _ _).trans (Up.alloc _ _)).trans (Up.alloc _ _)).cell Js, (((Up.alloc _ _).trans (Up.alloc _ _)).trans (Up.alloc _ _)).cell kQ⟩) (fun hS => ?_)
     try simp only [aq, ah, au]
     refine af.step (i := 7) rfl (by kernel_rfl) (fun K' hK => ?_)
     go_simp
     refine hK.out _ _ (fun _ => ⟨(((Up.alloc _ _).trans (Up.alloc _ _)).trans ((Up.alloc _ _).trans (Up.drewN _ 1))).cell Js, (((Up.alloc _ _).trans (Up.alloc _ _)).trans ((Up.alloc _ _).trans (Up.drewN _ 1))).cell kQ⟩) (fun hS => ?_)
     try simp only [aq, ah, au]
     refine af.step (i := 8) rfl (by kernel_rfl) (fun K' hK => ?_)
     go_simp
     refine hK.out _ _ (aJ (by kernel_rfl)) (fun hS => ?_)
     refine af.done (by kernel_rfl) ?_
     have HAN : Hid (upd A t.ps.length (w3.heap.size + 1) t.ps.length = w3.heap.size + 1) := upd_same _ _ _
     have iH : Hid (∀ j, j < t.ps.length → aL A j = aL (upd A t.ps.length (w3.heap.size + 1)) j) := fun j hj => by unfold aL; rw [upd_ne _ _ (by omega)]
     have HST : Hid (∃ kv', cm g (t.ps.length + 1) (upd A t.ps.length (w3.heap.size + 1)) kv' (rrK t q 0).fr w3 _ (w3.heap.size + 1 + 1) (rrK t q 0).fW) := ⟨_, PO.out⟩
     have GI := aa (fun i => Wv qI.out CL.out i)
     have HRJ := aa (th L6.out)
     have Cj : Hid (∀ j, j < t.ps.length → ∀ W, Below (g + 1) w3 W → W.cell? ⟨g, j, none⟩ = some (.pointer (some ⟨upd A t.ps.length (w3.heap.size + 1) j, 0, none⟩)) ∧ W.cell? ⟨bP, oP + j, none⟩ = some (.int .i64 (gi t.ps j)) ∧ W.cell? ⟨w.heap.size, 0, none⟩ = some (.slice (some ⟨bP, oP, none⟩) t.ps.length pc)) := fun j hj W hW => by
      have eC : Up w2 W := Below.trans dS.out (hW.mono (by have := Ar.out; omega))
      refine ⟨?_, eC.cell (OL Hg.out hj), eC.cell hc0⟩
      rw [hW.cell (p := ⟨g, j, none⟩) (Nat.lt_succ_self _), Dn.out.cell hj, iH.out j hj]; rfl
     generalize upd A t.ps.length (w3.heap.size + 1) = A' at *
     clear PO hS hK hl0 kQ Js hc0 hc1
     generalize (((w3.alloc (Obj.cells #[Value.pointer (some ⟨A q, 0, none⟩)] 124)).alloc (Obj.cells #[Value.string { data := #[] }, Value.slice (some ⟨w3.heap.size, 0, none⟩) 1 1, Value.int IntKind.i64 0] 127)).alloc (Obj.cells #[Value.int IntKind.i64 (q : Int)] 3)).drew = w4 at *
     go_wp2_with fail
     go_loopw [8, 9, 10, 11] (fun h b x _ wr => ∃ i fb : Nat, x = .int .i64 (rrK t q i).cur ∧ h = .pointer (some ⟨A' (rrK t q i).hang, 0, none⟩) ∧ b = .pointer (some ⟨fb, 0, none⟩) ∧ Hid (∃ kv', cm g (t.ps.length + 1) A' kv' (rrK t q i).fr w3 wr fb (rrK t q i).fW)) (fun _ _ x _ _ => (intOf x + 1).toNat)
     case atStart => exact ⟨0, _, rfl, by rw [← HAN.out]; rfl, rfl, HST.out⟩
     case round =>
      obtain ⟨i, fb, rfl, rfl, rfl, hO⟩ := hrel
      obtain ⟨wo, rfl⟩ : ∃ wo : World, wo = wr := ⟨_, rfl⟩
      obtain ⟨k1, k2, k3, k4, k5, k6⟩ := GI.out i
      by_cases hc : (rrK t q i).cur < 0
      ·have fN : Hid (∃ kv', cm g (t.ps.length + 1) A' kv' (bI t q) w3 wo fb (rrK t q i).fW) := by
        obtain ⟨kv', h⟩ := hO.out
        exact ⟨kv', h.congr (rr_end L6.out hc)⟩
       have d1 : decide ((0 : Int) ≤ (rrK t q i).cur) = false := decide_eq_false (by omega)
       generalize (rrK t q i).cur = cur at *
       generalize (rrK t q i).hang = hang at *
       generalize (rrK t q i).fW = fW at *
       clear hO HST GI HRJ Cj
       go_wp2_with fail
       obtain ⟨kv4, Qr⟩ := fN.out
       have sM := aa Qr
       have HA := aa (fR L6.out)
       have hnn : t.ps.length < t.ps.length + 1 := Nat.lt_succ_self _
       have HLEN := aa (rr_len L6.out)
       have oF := aa (SJ 118 #[] (enters_of Tryz.func118 (by kernel_rfl) rfl) (base := g + 1) (n := t.ps.length + 1) (A := A') (w0 := w3) (m := (bI t q).nm) (o := (bI t q).old) (P := xM t q) (rk := eM t q)
        (fun j W _ _ hnm _ => Jp W (A' j) _ hnm) (eM t q t.ps.length) (bI t q) t.ps.length kv4 wo rfl rfl HA.out.wf (HA.out.dis (fun z hz => Nn z hz) _) HLEN.out hnn (Nat.le_refl _) Qr.up Qr.size Qr.fr)
       have eD := aa (pW L6.out)
       have rj := aa eD.out.1
       unfold Cg at oF
       rw [rj.out, if_pos rfl] at oF
       unfold aL at oF
       rw [HAN.out] at oF
       clear Qr fN d1
       refine oF.out.mono ?_
       rintro e w5 ⟨rfl, kv5, h5⟩
       have xz := aa (sM.out.up.trans (h5.up.below sM.out.fr.lo sM.out.size))
       have Qe : Hid (g + 1 ≤ w5.heap.size) := Nat.le_trans sM.out.size h5.up.size
       have oO := aa (aac (jy HA.out.wf t.ps.length) (aaa HA.out.wf hnn (HA.out.dis (fun z hz => Nn z hz) _)) (Z9 HLEN.out t.ps.length) (aab HA.out.wf hnn (s8 L6.out)) hnn eD.out.2.1
        (Nat.le_trans (lY _) (Nat.le_trans eD.out.2.2 (by decide))) Qe.out h5.fr)
       have Fw : Hid (aG ((bI t q).sub (eM t q) (gY (bI t q) (xM t q) (eM t q)) t.ps.length) (eM t q) t.ps.length = yV t q) := rfl
       have Qs : Hid (mI t q = if 64 < (CJ t q).ps.length then 4 else 0) := by unfold Hid mI; rw [if_neg (by simp [ym.out])]
       have Cj : Hid (xd t q = if 64 < (CJ t q).ps.length then ⟨[], []⟩ else CJ t q) := by
        unfold Hid xd; rw [Qs.out]
        by_cases c : 64 < (CJ t q).ps.length
        ·rw [if_pos c, if_pos c, if_pos (by decide)]
        ·rw [if_neg c, if_neg c, if_neg (by simp)]
       have HT' : Hid (flat (sortR (contrR (yV t q))) = CJ t q) := rfl
       unfold Qd at oO
       rw [Fw.out, HT'.out, ← Qs.out, ← Cj.out, HAN.out] at oO
       clear h5 oF hnn
       clear Qs Cj HT' Fw
       obtain ⟨T, hTT⟩ : ∃ T, T = xd t q := ⟨_, rfl⟩
       obtain ⟨cd, hcd⟩ : ∃ c, c = mI t q := ⟨_, rfl⟩
       rw [← hTT, ← hcd] at oO
       have HTT := aa hTT
       have Qs := aa hcd
       clear hTT hcd
       go_wp2_with fail
       refine oO.out.mono ?_
       rintro e w6 ⟨zU, UC, _, rfl, P5, N5, rfl, hP5, hN5⟩
       obtain ⟨p5, c5, rfl, _, _⟩ := aD.open hP5
       obtain ⟨n5, d5, rfl, _, _⟩ := aD.open hN5
       have dH : Up w2 w6 := Below.trans dS.out ((xz.out.trans zU).mono (by have := Ar.out; omega))
       have mX := (Below.block dH (w.heap.size + 1) (by have := bH.out.size; rw [bQ.out] at this; omega)).trans fu.out
       obtain ⟨q0, q1, q2, q3⟩ := boxed mX
       have HST := aa (dL (w := w) (p := .slice p5 T.ps.length c5) (q := .slice n5 T.ns.length d5) mX (by omega) (jC.out.trans dH))
       have HP5 := aa hP5
       have HN5 := aa hN5
       clear zU mX dH hP5 hN5 oO
       go_wp2_with fail
       obtain ⟨s1, s2, s3, s4⟩ := HST.out
       refine ⟨rfl, .tuple #[.agg #[.slice p5 T.ps.length c5, .slice n5 T.ns.length d5], .int .i64 cd], by simp [results, Tryz.results55, go_sem, s2, s3], s1, _, by rw [Qs.out], ?_⟩
       rw [← HTT.out]
       have hz5 := Qe.out
       have tN := Ar.out
       have hsz := bH.out.size
       rw [bQ.out] at hsz
       exact ⟨_, _, rfl, (aB.keep HP5.out fun b hb _ => s4 b (by omega)).sub fun _ _ _ => trivial, (av.keep HN5.out fun b hb _ => s4 b (by omega)).sub fun _ _ _ => trivial⟩
      ·obtain ⟨x, hx⟩ : ∃ x : Nat, (rrK t q i).cur = x := ⟨(rrK t q i).cur.toNat, by omega⟩
       have d1 : decide ((0 : Int) ≤ (rrK t q i).cur) = true := decide_eq_true (by omega)
       have L8 := aa (Jb hc)
       have HJ := aa (HRJ.out i)
       have HJ2 := aa (GI.out (i + 1))
       have HX := aa hx
       obtain ⟨kv', hT⟩ := hO.out
       have mC : x < t.ps.length := by omega
       obtain ⟨r1, r2, r3⟩ := Cj.out x mC wo hT.up
       have hkx := hT.fr.je (i := x) (by omega)
       have hKX : (rrK t q i).fr.kids x = aQ t.ps x := by rw [HJ.out.kids x (by omega)]; exact nP (by omega) (by omega)
       have hfm : (rrK t q i).fW ∈ aQ t.ps x := bf.2 ⟨k1, by omega, by rw [← k3, hx]⟩
       have hown := hT.fr.own x (by omega)
       obtain ⟨L, iw⟩ : ∃ L, L = (rrK t q i).fr.kids x := ⟨_, rfl⟩
       have yj : 0 < L.length := by rw [iw, hKX]; exact List.length_pos_iff_exists_mem.2 ⟨_, hfm⟩
       have gK : L.length ≤ 1000 := by rw [iw, hKX]; have : (aQ t.ps x).length ≤ t.ps.length := jE t x; have := (aH qI.out).2.1; omega
       rw [← iw] at hown
       obtain ⟨qq, cap, hv, hq⟩ := hown.form (n := L.length) (by simp)
       obtain ⟨bk, rfl⟩ : ∃ g, qq = some ⟨g, 0, none⟩ := by
        rcases hq with rfl | h
        ·obtain ⟨_, h | ⟨g, _, _, h, _⟩⟩ := hown
         ·have := h.2; rw [List.length_map] at this; omega
         ·rw [hv] at h; cases h
        ·exact h
       rw [hv] at hkx hown
       have hbk : (kv' x).ownBlock = some bk := by rw [hv]; rfl
       have HT := aa hT
       have Vj := aa (FW (A := A') (P := fun k => decide ((rrK t q i).fr.old k = ((rrK t q i).fW : Int))) 115 #[.pointer (some ⟨fb, 0, none⟩)] (enters_of Tryz.func115 (by kernel_rfl) rfl) hown (by omega) (fun k hk W hW => by
        have hkn : k < t.ps.length + 1 := HT.out.fr.kid x (by omega) k (by rw [← iw]; exact hk)
        obtain ⟨h1, h2, _⟩ := HT.out.grown (x := x) (by omega) hbk.symm hW
        exact from_t W (A' k) fb _ _ (by simp [World.cell?, h1]) (by have := HT.out.fr.Yi hkn; simp only [World.cell?, h2 k hkn]; exact this)))
       have Qt := aa hbk
       have dF := aa iw
       have i1 : (0 : Int) ≤ (x : Int) := by omega
       have i2 : (x : Int) < (t.ps.length : Int) := by omega
       rw [hx] at d1
       rw [hx]
       clear hO HST GI hT hown hv hq hKX hfm iw hbk hc
       go_wp2_with fail
       refine Vj.out.mono ?_
       rintro e w5 ⟨m5, rfl, Vk, Tl⟩
       obtain ⟨hs1, hs2⟩ := HT.out.store (x := x) (by omega) Qt.out.symm Tl
       obtain ⟨F2, hF2⟩ : ∃ F2 : aP, F2 = ⟨(rrK t q i).fr.nm, (rrK t q i).fr.old, upd (rrK t q i).fr.kids x (L.filter fun k => !decide ((rrK t q i).fr.old k = ((rrK t q i).fW : Int)))⟩ := ⟨_, rfl⟩
       have HD : Hid (cm g (t.ps.length + 1) A' (upd kv' x (.slice (some ⟨bk, 0, none⟩) m5 cap)) F2 w3 (w5.setCell ⟨A' x, 1, none⟩ (.slice (some ⟨bk, 0, none⟩) m5 cap)) fb (rrK t q i).fW) := by
        rw [Hid, hF2]
        exact HT.out.del (x := x) (by omega) Qt.out Tl Vk (fun j hj => by rw [dF.out] at hj; exact HT.out.fr.kid x (by omega) j (List.mem_filter.1 hj).1)
       have HHX : Hid ((rrK t q i).hang ≠ x) := by unfold Hid; omega
       have hkh := HD.out.fr.je (i := (rrK t q i).hang) k2
       have Fx : Hid (((F2.kids (rrK t q i).hang).map (aL A')).length = (F2.kids (rrK t q i).hang).length ∧ (F2.kids (rrK t q i).hang).length ≤ 1000000) := by
        refine ⟨List.length_map _, ?_⟩
        rw [hF2]
        show (upd _ x _ _ : List Nat).length ≤ _
        rw [upd_ne _ _ HHX.out, HJ.out.kids _ (by omega)]
        have := WD t q (rrK t q i).fW (rrK t q i).hang
        omega
       have Ac : Hid (Qi (rrK t q i).fr (rrK t q i).hang (rrK t q i).fW x = { F2 with kids := upd F2.kids (rrK t q i).hang (F2.kids (rrK t q i).hang ++ [x]) }) := by rw [Hid, hF2, dF.out]; rfl
       have oL : Hid (∀ (b m c : Nat) (w' : World), aA (g + 1) 124 w' (.slice (some ⟨b, 0, none⟩) m c) ((F2.kids (rrK t q i).hang).map (aL A') ++ [.pointer (some ⟨A' x, 0, none⟩)]) → (w5.setCell ⟨A' x, 1, none⟩ (.slice (some ⟨bk, 0, none⟩) m5 cap)).grownBy w' (upd kv' x (.slice (some ⟨bk, 0, none⟩) m5 cap) (rrK t q i).hang).ownBlock →
         ((upd kv' x (.slice (some ⟨bk, 0, none⟩) m5 cap) (rrK t q i).hang).ownBlock = some b ∨ (w5.setCell ⟨A' x, 1, none⟩ (.slice (some ⟨bk, 0, none⟩) m5 cap)).heap.size ≤ b) →
         ∃ kv3, cm g (t.ps.length + 1) A' kv3 (rrK t q (i + 1)).fr w3 (w'.setCell ⟨A' (rrK t q i).hang, 1, none⟩ (.slice (some ⟨b, 0, none⟩) m c)) fb (rrK t q i).fW) := fun b m c w' h1 h2 h3 => by
        refine ⟨_, (HD.out.push k2 (show x < t.ps.length + 1 by omega) h1 h2 h3).congr fun j _ => ?_⟩
        rw [L8.out, HX.out]
        show _ ∧ _ ∧ (Qi _ _ _ x).kids j = _
        rw [Ac.out, hF2]
        exact ⟨rfl, rfl, rfl⟩
       have Qu : Hid (∀ w' : World, (w5.setCell ⟨A' x, 1, none⟩ (.slice (some ⟨bk, 0, none⟩) m5 cap)).grownBy w' (upd kv' x (.slice (some ⟨bk, 0, none⟩) m5 cap) (rrK t q i).hang).ownBlock → w'.cell? ⟨A' (rrK t q i).hang, 1, none⟩ = some (upd kv' x (.slice (some ⟨bk, 0, none⟩) m5 cap) (rrK t q i).hang) ∧ w'.frozen? ⟨A' (rrK t q i).hang, 1, none⟩ = false) := fun w' hw => HD.out.store k2 rfl hw
       have B5 : Hid ((rrK t q (i + 1)).hang = x ∧ (rrK t q (i + 1)).fW = x ∧ (rrK t q (i + 1)).cur = gi t.ps x) := by rw [Hid, L8.out, HX.out]; exact ⟨rfl, rfl, rfl⟩
       have AR : Hid (aA (g + 1) 124 (w5.setCell ⟨A' x, 1, none⟩ (.slice (some ⟨bk, 0, none⟩) m5 cap)) (upd kv' x (.slice (some ⟨bk, 0, none⟩) m5 cap) (rrK t q i).hang) ((F2.kids (rrK t q i).hang).map (aL A'))) := HD.out.fr.own (rrK t q i).hang k2
       have HSZ5 : Hid (g + 1 ≤ (w5.setCell ⟨A' x, 1, none⟩ (.slice (some ⟨bk, 0, none⟩) m5 cap)).heap.size) := HD.out.size
       have HXN : Hid (x < t.ps.length) := mC
       have HJ2 := aa (HJ2.out.2.2.2.1)
       clear Vk Tl Vj hF2 Ac L8 HJ HRJ HD dF HHX HT Qt k1 k2 k3 k4 k5 k6 yj gK
       generalize upd kv' x (.slice (some ⟨bk, 0, none⟩) m5 cap) (rrK t q i).hang = kvh at *
       generalize (F2.kids (rrK t q i).hang).map (aL A') = vs at *
       generalize (F2.kids (rrK t q i).hang).length = vl at *
       generalize (rrK t q i).hang = hang at *
       generalize (rrK t q i).fW = fW at *
       go_wp2_with (first | (at_builtin; refine tA (w5.setCell ⟨A' x, 1, none⟩ (.slice (some ⟨bk, 0, none⟩) m5 cap)) rfl _ _ 125 rfl (g + 1) 124 (.pointer none) 8 Tryz.underlying125 Tryz.nX rfl (by decide) AR.out rfl (.pointer (some ⟨A' x, 0, none⟩)) w5.heap.size (World.size_setCell _ _ _) rfl rfl _ Fx.out.1 Fx.out.2 HSZ5.out ?_; intro g8 iz w8 cA dw gC; obtain ⟨Qv, Vl⟩ := Qu.out w8 dw; have Qw := aa (oL.out _ _ _ w8 cA dw gC); have hfb8 := Qw.out.choose_spec.cell; have oQ := aa Qw.out.choose_spec.up; clear cA dw gC))
       have CM : (w8.setCell ⟨A' hang, 1, none⟩ (.slice (some ⟨g8, 0, none⟩) (vl + 1) iz)).heap.size = w8.heap.size := World.size_setCell _ _ _
       rw [← CM]
       generalize w8.setCell ⟨A' hang, 1, none⟩ (.slice (some ⟨g8, 0, none⟩) (vl + 1) iz) = w9 at *
       obtain ⟨_, m2, m3⟩ := Cj.out x HXN.out (w9.alloc (.cells #[.int .i64 fW] 3)) (oQ.out.trans ((Up.alloc w9 _).mono (by obtain ⟨_, h⟩ := Qw.out; exact h.size)))
       have cD := uW w9 (.int .i64 fW) 3
       clear CM Qv Vl hfb8 r1 r2 r3
       refine cU (by kernel_rfl) 8 (fun w' => w'.cell? ⟨w.heap.size, 0, none⟩ = some (.slice (some ⟨bP, oP, none⟩) t.ps.length pc) ∧ w'.cell? ⟨bP, oP + x, none⟩ = some (.int .i64 (gi t.ps x))) ⟨m3, m2⟩ (fun hS => ?_)
       simp only [List.size_toArray, List.length_cons, List.length_nil, Nat.reduceAdd, Array.replicate_succ, Array.replicate_zero, List.push_toArray, List.nil_append, List.cons_append]
       refine af.take (i := 0) (v := ?U0) rfl (by kernel_rfl) (fun _ _ _ h => h) (by rfl) (fun w hSw => ?CB) hS ?U1
       case CB =>
        (try dsimp only at hSw)
        go_simp
        try with_reducible rfl
       try simp only [Act.put, aq, ah, au]
       refine af.take (i := 1) (v := ?U2) rfl (by kernel_rfl) (fun _ _ _ h => h) (by rfl) (fun w hSw => ?CC) hS ?U3
       case CC =>
        (try dsimp only at hSw)
        go_simp
        try with_reducible rfl
       try simp only [Act.put, aq, ah, au]
       refine af.take (i := 2) (v := ?U4) rfl (by kernel_rfl) (fun _ _ _ h => h) (by rfl) (fun w hSw => ?CD) hS ?U5
       case CD =>
        (try dsimp only at hSw)
        go_simp
        try with_reducible rfl
       try simp only [Act.put, aq, ah, au]
       refine af.take (i := 3) (v := ?U6) rfl (by kernel_rfl) (fun _ _ _ h => h) (by rfl) (fun w hSw => ?CE) hS ?U7
       case CE =>
        (try dsimp only at hSw)
        go_simp
        try with_reducible rfl
       try simp only [Act.put, aq, ah, au]
       refine af.take (i := 4) (v := ?U8) rfl (by kernel_rfl) (fun _ _ _ h => h) (by rfl) (fun w hSw => ?CF) hS ?U9
       case CF =>
        (try dsimp only at hSw)
        go_simp
        try with_reducible rfl
       try simp only [Act.put, aq, ah, au]
       refine af.take (i := 5) (v := ?Va) rfl (by kernel_rfl) (fun _ _ _ h => h) (by rfl) (fun w hSw => ?CG) hS ?Vb
       case CG =>
        (try dsimp only at hSw)
        go_simp
        try with_reducible rfl
       try simp only [Act.put, aq, ah, au]
       refine af.step (i := 6) rfl (by kernel_rfl) (fun K' hK => ?_)
       go_simp
       refine hK.out _ _ (fun _ => ?_) (fun hS => ?_)
       ·obtain ⟨_, m2, m3⟩ := Cj.out x HXN.out ((w9.alloc (.cells #[.int .i64 (x : Int)] 3)).drew) (oQ.out.trans (((Up.alloc w9 _).trans (Up.drewN _ 1)).mono (by obtain ⟨_, h⟩ := Qw.out; exact h.size)))
        exact ⟨m3, m2⟩
       try simp only [aq, ah, au]
       refine af.step (i := 7) rfl (by kernel_rfl) (fun K' hK => ?_)
       go_simp
       refine hK.out _ _ (aJ (by kernel_rfl)) (fun hS => ?_)
       refine af.done (by kernel_rfl) ?_
       have HN : Hid (∃ kv', cm g (t.ps.length + 1) A' kv' (rrK t q (i + 1)).fr w3 ((w9.alloc (.cells #[.int .i64 (x : Int)] 3)).drew) w9.heap.size (rrK t q (i + 1)).fW) := by
        obtain ⟨kv3, h⟩ := Qw.out
        exact ⟨kv3, by rw [B5.out.2.1]; exact (h.rebox (x : Int)).drew⟩
       clear hS hK
       go_wp2_with fail
       go_roundw
       case rel => exact ⟨i + 1, _, by rw [B5.out.2.2], by rw [B5.out.1], rfl, HN.out⟩
       case measure =>
        have h2 := HJ2.out
        rw [B5.out.2.2, B5.out.2.1] at h2
        simp [intOf]; omega
 ·have Ae : (az t != 0) = true := by simpa using he
  have HST := aa (CK (c := 1) (by omega) jC.out fu.out (by rw [Vi.out, if_pos he]) (by decide))
  clear he Vi
  generalize az t = te at *
  go_wp2_with fail
  obtain ⟨s2, s3, hp⟩ := HST.out
  exact ⟨rfl, .tuple #[.agg #[.slice none 0 0, .slice none 0 0], .int .i64 1], by simp [results, Tryz.results55, go_sem, s2, s3], hp⟩
end Go.Proofs.YteegefnjnikngaaGreat
