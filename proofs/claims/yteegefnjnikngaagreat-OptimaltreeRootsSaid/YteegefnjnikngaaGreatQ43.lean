/- optimaltree.score, Score. Lists of trees in memory: reading and appending. Lists of texts .. -/
import Derived.Test.YteegefnjnikngaaGreatQ1
import Derived.Test.YteegefnjnikngaaGreatQ42
import Derived.Test.YteegefnjnikngaaGreatQ17
import Derived.Test.YteegefnjnikngaaGreatQ39
import Derived.Test.YteegefnjnikngaaGreatQ12
import Derived.Test.YteegefnjnikngaaGreatQ20
import Derived.Test.YteegefnjnikngaaGreatQ40
import Derived.Test.YteegefnjnikngaaGreatQ9
set_option maxRecDepth 100000
namespace Go.Proofs.YteegefnjnikngaaGreat
section
open Go.RowKit Go.Deep
def qp (t : ax) (names : List ByteArray) (states : List (List Int)) : Value := .tuple #[.int .i64 (if lG t names then cN t names states else 0), .int .i64 (if lG t names then 0 else 9)]
theorem zH {f : Nat → Int} : ∀ {n : Nat}, (∀ p, p < n → 0 ≤ f p ∧ f p ≤ 100000) → 0 ≤ b7 f n ∧ b7 f n ≤ 100000 * n
 | 0, _ => ⟨Int.le_refl _, Int.le_refl _⟩
 | n + 1, h => by
  have h1 := zH (f := f) (n := n) fun p hp => h p (by omega)
  have h2 := h n (by omega)
  rw [fK]
  omega
theorem J8 {states : List (List Int)} (h : cB states = 0) : states.length ≤ 32 ∧ (gl states 0).length ≤ 4096 := by
 unfold cB at h
 split at h
 ·cases h
 ·split at h
  ·cases h
  ·rename_i h1; omega
set_option maxHeartbeats 800000 in
theorem FL (S : Nat → Prop) (w : World) (v vn vs : Value) (t : ax) (names : List ByteArray) (states : List (List Int)) (hT : aC S w v t) (ht : az t = 0) (hz : ∀ k, (gs t.ns k).size ≤ 70000) (h : av S w vn names) (hS : bh S w vs states) (hc : tC names states) :
  Calls Tryz.prog 74 #[v, vn, vs] w fun e w' => e = .returned (qp t names states) ∧ Up w w' := by
 obtain ⟨hp1, AZ, hnl, hok, -⟩ := aH ht
 have hlv := ux t.ns
 obtain ⟨P, N, rfl, hP, hN⟩ := hT
 obtain ⟨np, nc, rfl, -, -⟩ := aD.open hN
 have hN : av S w (.slice np t.ns.length nc) t.ns := hN
 obtain ⟨pp, pc, rfl, -, -⟩ := aD.open hP
 have hP : aB S w (.slice pp t.ps.length pc) t.ps := hP
 obtain ⟨mp, mc, rfl, -, -⟩ := aD.open h
 have h : av S w (.slice mp names.length mc) names := h
 obtain ⟨sp, sc, rfl, -, -⟩ := fL hS
 obtain ⟨ag0, agr⟩ := CX hc.ag
 obtain ⟨ag32, ag4⟩ := J8 hc.ag
 have aX : Up w (w.alloc (.cells #[.slice pp t.ps.length pc, .slice np t.ns.length nc] 39)) := Up.alloc _ _
 have hrb := fF (w := w) (P := .slice pp t.ps.length pc) (N := .slice np t.ns.length nc) (T := 39)
 obtain ⟨q0, q1, -, -⟩ := boxed hrb
 have kz : aC S (w.alloc (.cells #[.slice pp t.ps.length pc, .slice np t.ns.length nc] 39)) (.agg #[.slice pp t.ps.length pc, .slice np t.ns.length nc]) t := ⟨_, _, rfl, aB.keep hP (aX.kept S), av.keep hN (aX.kept S)⟩
 have nG := aa (TI S (w.alloc (.cells #[.slice pp t.ps.length pc, .slice np t.ns.length nc] 39)) _ _ t names kz (by omega) (by omega) hz (av.keep h (aX.kept S)) (by have := hc.nm.hi; omega))
 have xI := aa kz
 have lg := aa (bh.keep hS (aX.kept S))
 have bT := aa aX
 have HB : Hid (xQ t names = lG t names) := by unfold Hid xQ; rw [decide_eq_true ht]; rfl
 have oT : Hid (∀ W v u st, aC S W v t → aB Any W u st → st.length ≤ 64 → Calls Tryz.prog 134 #[v, u] W (Py W t st)) := fun W v u st h1 h2 h3 => Wh Any W v u t st (h1.sub fun _ _ _ => trivial) h2 (by omega) (by omega) hz (by omega)
 have vQ := aa agr
 have C6 := aa (And.intro ag0 (And.intro ag32 ag4))
 have Az : Hid ((ay t.ns).length ≤ 64) := by unfold Hid; omega
 have Mn := aa hc.len
 have HST : Hid (qp t names states = .tuple #[.int .i64 (if lG t names then cN t names states else 0), .int .i64 (if lG t names then 0 else 9)]) := rfl
 have HVA : Hid (lG t names = true → ∀ p, p < (gl states 0).length → cE t (iL t names states p) (bU 16) ≤ 100000 ∧ 0 ≤ cE t (iL t names states p) (bU 16) ∧ ig t (iL t names states p) (bU 16) = 0) := fun hf p hp => by
  have hv := qK hc ((CW hc.nm ht).1 hf) hp
  exact ⟨Ea hv, x4 hv, hv.par⟩
 have HFD : Hid (lG t names = true → ∀ j, j < (ay t.ns).length → ∃ b : Nat, gi (uo t names (ay t.ns).length) j = b ∧ b < names.length) := fun hf j hj => by
  have ho := (CW hc.nm ht).1 hf
  obtain ⟨v, hv, zX, hv0⟩ := r9 hj
  obtain ⟨b, hb, _, e⟩ := JK ho (show v < t.ps.length by omega) hv0
  exact ⟨b, by rw [QX hj, hv, Int.toNat_natCast, e], hb⟩
 clear hP hN h hS aX hrb hz kz hc ht agr ag0 ag32 ag4 hok hp1 AZ hnl hlv
 go_enter Tryz.func74, Tryz.ntmps74
 go_wp2_with fail
 generalize w.alloc (.cells #[.slice pp t.ps.length pc, .slice np t.ns.length nc] 39) = w1 at *
 refine nG.out.mono ?_
 rintro e w2 ⟨aK, pv, rfl, hpv⟩
 rw [HB.out] at hpv ⊢
 cases hfit : lG t names
 ·have C9 : Hid (qp t names states = .tuple #[.int .i64 0, .int .i64 9]) := by unfold Hid; rw [HST.out, hfit]; rfl
  have eD : Hid (Ending.returned (.tuple #[.int .i64 0, .int .i64 9]) = Ending.returned (qp t names states) ∧ Up w w2) := ⟨by rw [C9.out], bT.out.trans aK⟩
  clear hpv aK nG
  go_wp2_with fail
  go_ret2
  exact eD.out
 ·have hpi := hpv hfit
  obtain ⟨rp, rc, rfl, -, -⟩ := aD.open hpi
  rw [vR] at hpi
  rw [vR]
  have XT := aa hpi
  have C9 : Hid (qp t names states = .tuple #[.int .i64 (cN t names states), .int .i64 0]) := by unfold Hid; rw [HST.out, hfit]; rfl
  have HVA2 := aa (HVA.out hfit)
  have HFD2 := aa (HFD.out hfit)
  have bH := aa (bT.out.trans aK)
  have q9 := aa (xI.out.keep (aK.kept S))
  have kB := aa (lg.out.keep (aK.kept S))
  have HQ := aa (And.intro (aK.cell q0) (aK.cell q1))
  obtain ⟨sb, so, s0, s1, rfl, hc0, kR⟩ := jd kB.out C6.out.1
  rw [Nat.add_zero] at hc0
  have i1 : (0 : Int) < (states.length : Int) := by have := C6.out.1; omega
  clear hpv hpi aK nG xI lg HST HVA HFD q0 q1 kR bT
  go_wp2_with fail
  have J9 : Hid (∀ n : Nat, n ≤ (gl states 0).length → 0 ≤ b7 (fun p => cE t (iL t names states p) (bU 16)) n ∧ b7 (fun p => cE t (iL t names states p) (bU 16)) n ≤ 100000 * n) := fun n hn => zH fun p hp => by
   obtain ⟨h1, h2, _⟩ := HVA2.out p (by omega)
   exact ⟨h2, h1⟩
  have uU : Hid (∀ n : Nat, b7 (fun p => cE t (iL t names states p) (bU 16)) (n + 1) = b7 (fun p => cE t (iL t names states p) (bU 16)) n + cE t (iL t names states n) (bU 16)) := fun n => rfl
  have Qu : Hid (cN t names states = b7 (fun p => cE t (iL t names states p) (bU 16)) (gl states 0).length) := rfl
  generalize hF : (fun n => b7 (fun p => cE t (iL t names states p) (bU 16)) n) = F at *
  have Mo : ∀ n, b7 (fun p => cE t (iL t names states p) (bU 16)) n = F n := fun n => by rw [← hF]
  have UW : Hid (F 0 = 0) := by unfold Hid; rw [← Mo]; rfl
  have J9 : Hid (∀ n : Nat, n ≤ (gl states 0).length → 0 ≤ F n ∧ F n ≤ 100000 * n) := fun n hn => by rw [← Mo]; exact J9.out n hn
  have uU : Hid (∀ n : Nat, F (n + 1) = F n + cE t (iL t names states n) (bU 16)) := fun n => by rw [← Mo, ← Mo]; exact uU.out n
  have Qu : Hid (cN t names states = F (gl states 0).length) := by unfold Hid; rw [← Mo]; exact Qu.out
  clear hF Mo
  go_loopw [10, 11, 12, 14, 15, 16, 29] (fun s _ _ _ _ _ i wr => ∃ n : Nat, n ≤ (gl states 0).length ∧ i = .int .i64 n ∧ s = .int .i64 (F n) ∧ Hid (Up w2 wr)) (fun _ _ _ _ _ _ i _ => (gl states 0).length - (intOf i).toNat)
  case atStart => exact ⟨0, Nat.zero_le _, rfl, by rw [UW.out], Up.refl _⟩
  case round =>
   obtain ⟨n, hn, rfl, rfl, hU⟩ := hrel
   obtain ⟨wo, rfl⟩ : ∃ wo : World, wo = wr := ⟨_, rfl⟩
   by_cases hlt : n < (gl states 0).length
   ·have i2 : (n : Int) < ((gl states 0).length : Int) := by omega
    have i3 : (n : Int) < 4096 := by have := C6.out.2.2; omega
    have i4 : (0 : Int) ≤ (n : Int) := by omega
    have vg := J9.out n hn
    have hf2 := J9.out (n + 1) hlt
    rw [uU.out n] at hf2
    obtain ⟨hv1, hv2, hv3⟩ := HVA2.out n hlt
    have HV := aa (And.intro vg (And.intro hf2 (And.intro hv1 (And.intro hv2 hv3))))
    have y8 : Hid (aA wo.heap.size 3 wo (.slice none 0 0) ((oG t names (cR states n) 0).map (Value.int .i64)) ∧ Up wo wo) := ⟨aA.nil _ _ _, Up.refl _⟩
    clear vg hf2 hv1 hv2 hv3
    go_wp2_with fail
    go_loopw [12, 14, 34] (fun o _ i wr => ∃ j : Nat, j ≤ (ay t.ns).length ∧ i = .int .i64 j ∧ Hid (aA wo.heap.size 3 wr o ((oG t names (cR states n) j).map (Value.int .i64)) ∧ Up wo wr)) (fun _ _ i _ => (ay t.ns).length - (intOf i).toNat)
    case atStart => exact ⟨0, Nat.zero_le _, rfl, y8.out⟩
    case round =>
     obtain ⟨j, hj, rfl, hI⟩ := hrel
     obtain ⟨wi, rfl⟩ : ∃ wi : World, wi = wr := ⟨_, rfl⟩
     obtain ⟨hA, fV⟩ := hI.out
     by_cases hlj : j < (ay t.ns).length
     ·obtain ⟨b, hb1, hb2⟩ := HFD2.out j hlj
      obtain ⟨xb, xo, rfl, qw⟩ := eE (aB.keep XT.out ((hU.out.trans fV).kept _)) (k := j) (by rw [vR]; exact hlj)
      rw [hb1] at qw
      have nV : b < states.length := by rw [Mn.out]; exact hb2
      obtain ⟨rb, ro, r0, r1, er, hcr, hir⟩ := jd (bh.keep kB.out ((hU.out.trans fV).kept S)) nV
      injection er with er
      injection er with er1 er2
      subst er1; subst er2
      rw [(vQ.out b nV).1] at hcr
      obtain ⟨yb, yo, rfl, hcy⟩ := eE hir (k := n) (by rw [(vQ.out b nV).1]; exact hlt)
      have jP : Hid ((oG t names (cR states n) (j + 1)).map (Value.int .i64) = (oG t names (cR states n) j).map (Value.int .i64) ++ [.int .i64 (gi (gl states b) n)]) := by
       unfold Hid
       have e2 : iI names (gs t.ns (gi (ay t.ns) j).toNat) = b := by rw [← QX hlj]; exact hb1
       rw [QM, List.map_append, e2, Int.toNat_natCast, JM _ _ nV]; rfl
      have eT : Hid (((oG t names (cR states n) j).map (Value.int .i64)).length = j) := by unfold Hid; rw [List.length_map, tB]
      have HA := aa hA
      have VF := aa fV
      have hsz := fV.size
      have k1 : (0 : Int) ≤ (j : Int) := by omega
      have k2 : (j : Int) < ((ay t.ns).length : Int) := by omega
      have k3 : (j : Int) < 64 := by have := Az.out; omega
      have k4 : (0 : Int) ≤ (b : Int) := by omega
      have k5 : (b : Int) < (states.length : Int) := by omega
      generalize gi (gl states b) n = y at *
      clear hI hA fV hlj hir hb1 hb2 nV
      go_wp2_with (at_builtin; refine uC wi rfl _ _ 26 rfl wo.heap.size 3 _ 8 Tryz.underlying26 Tryz.lK rfl (by decide) HA.out rfl _ rfl rfl j eT.out (by omega) hsz ?_; intro g cap w8 hown1 hg1 og)
      have J4 : Hid (aA wo.heap.size 3 w8 (.slice (some ⟨g, 0, none⟩) (j + 1) cap) ((oG t names (cR states n) (j + 1)).map (Value.int .i64))) := by unfold Hid; rw [jP.out]; exact hown1
      have oQ : Hid (Up wo w8) := Below.trans VF.out og
      clear hown1 hg1 og
      go_roundw
      case rel => exact ⟨j + 1, by omega, by go_num, J4.out, oQ.out⟩
      case measure => simp [intOf]; omega
     ·obtain rfl : j = (ay t.ns).length := by omega
      obtain ⟨op, oc, rfl, -⟩ := hA.form (n := (ay t.ns).length) (by rw [List.length_map, tB])
      have HFT := aa (oT.out wi _ (.slice op (ay t.ns).length oc) (iL t names states n) (q9.out.keep ((hU.out.trans fV).kept S)) (hA.ints.sub fun _ _ _ => trivial) (by unfold iL; rw [tB]; exact Az.out))
      have q0 := (hU.out.trans fV).cell HQ.out.1
      have q1 := (hU.out.trans fV).cell HQ.out.2
      have HUi := aa (hU.out.trans fV)
      have BO := aa (uU.out n)
      clear hI hA fV hlj hj
      obtain ⟨vg, hf2, hv1, hv2, hv3⟩ := HV.out
      have HV3 := aa hv3
      clear hv3
      generalize F n = fn at *
      go_wp2_with fail
      refine HFT.out.mono ?_
      rintro e w9 ⟨um, rfl⟩
      have VH := aa (HUi.out.trans um)
      rw [HV3.out]
      clear um HFT
      generalize cE t (iL t names states n) (bU 16) = z at *
      have hb9 : fn + z ≤ 409600000 ∧ 0 ≤ fn + z := by constructor <;> omega
      go_wp2_with fail
      go_roundw
      case rel => exact ⟨n + 1, by omega, by go_num, by rw [BO.out], VH.out⟩
      case measure => simp [intOf]; omega
   ·obtain rfl : n = (gl states 0).length := by omega
    have eD : Hid (Ending.returned (.tuple #[.int .i64 (F (gl states 0).length), .int .i64 0]) = Ending.returned (qp t names states) ∧ Up w wo) := ⟨by rw [C9.out, Qu.out], bH.out.trans hU.out⟩
    clear hlt
    go_wp2_with fail
    go_ret2
    exact eD.out
end
section
open Go.RowKit Go.Deep
def dz (S : Nat → Prop) (w : World) (v : Value) (ts : List ax) : Prop :=
 ∃ p cap, v = .slice p ts.length cap ∧ ts.length ≤ cap ∧ (ts.length = 0 ∨ ∃ b off, p = some ⟨b, off, none⟩ ∧ S b ∧ ∀ k, k < ts.length → ∃ P N, w.cell? ⟨b, off + k * 2, none⟩ = some P ∧ w.cell? ⟨b, off + k * 2 + 1, none⟩ = some N ∧ aC S w (.agg #[P, N]) (gt ts k))
theorem dz.keep {S : Nat → Prop} {w w' : World} {v : Value} {ts : List ax} (h : dz S w v ts) (k : Kept S w w') : dz S w' v ts := by
 obtain ⟨p, cap, rfl, hn, h⟩ := h
 refine ⟨p, cap, rfl, hn, ?_⟩
 rcases h with h | ⟨b, off, rfl, hS, h⟩
 ·exact .inl h
 ·refine .inr ⟨b, off, rfl, hS, fun i hi => ?_⟩
  obtain ⟨P, N, h1, h2, h3⟩ := h i hi
  have hlt : b < w.heap.size := World.block_lt_of_cell? w _ h1
  have hc : ∀ o, w'.cell? ⟨b, o, none⟩ = w.cell? ⟨b, o, none⟩ := fun o => World.cell?_of_block (a := ⟨b, o, none⟩) (k b hS hlt)
  exact ⟨P, N, (hc _).trans h1, (hc _).trans h2, h3.keep k⟩
theorem rT {S : Nat → Prop} {w : World} {v : Value} {ts : List ax} (h : dz S w v ts) : ∃ p cap, v = .slice p ts.length cap ∧ ts.length ≤ cap := by
 obtain ⟨p, cap, e, hn, _⟩ := h
 exact ⟨p, cap, e, hn⟩
theorem dz.nil (S : Nat → Prop) (w : World) : dz S w (.slice none 0 0) [] := ⟨none, 0, rfl, Nat.le_refl _, .inl rfl⟩
theorem ze {S : Nat → Prop} {w : World} {p : Option Addr} {n cap : Nat} {ts : List ax} (h : dz S w (.slice p n cap) ts) {k : Nat} (hk : k < ts.length) :
  ∃ b off pp pc np nc, p = some ⟨b, off, none⟩ ∧ w.cell? ⟨b, off + k * 2, none⟩ = some (.slice pp (gt ts k).ps.length pc) ∧ w.cell? ⟨b, off + k * 2 + 1, none⟩ = some (.slice np (gt ts k).ns.length nc) ∧ aC S w (.agg #[.slice pp (gt ts k).ps.length pc, .slice np (gt ts k).ns.length nc]) (gt ts k) := by
 obtain ⟨q, c, e, _, h⟩ := h
 injection e with e1
 subst e1
 rcases h with h | ⟨b, off, rfl, _, h⟩
 ·omega
 ·obtain ⟨P, N, h1, h2, h3⟩ := h k hk
  obtain ⟨P1, N1, e, hP, hN⟩ := h3
  injection e with e
  have e1 : P = P1 ∧ N = N1 := by simpa using e
  obtain ⟨rfl, rfl⟩ := e1
  obtain ⟨pp, pc, rfl, _, _⟩ := aD.open hP
  obtain ⟨np, nc, rfl, _, _⟩ := aD.open hN
  exact ⟨b, off, pp, pc, np, nc, rfl, h1, h2, _, _, rfl, hP, hN⟩
abbrev mz := (Value × Value) × ax
def xq (x : mz) : List Value := [x.1.1, x.1.2]
def lH (es : List mz) : List Value := es.flatMap xq
def xS (es : List mz) (k : Nat) : mz := es.getD k ((undef, undef), ⟨[], []⟩)
theorem KQ (es : List mz) (x : mz) : lH (es ++ [x]) = lH es ++ xq x := by unfold lH; rw [List.flatMap_append]; simp
theorem FM : ∀ (es : List mz) (k : Nat), k < es.length → (lH es)[k * 2]? = some (xS es k).1.1 ∧ (lH es)[k * 2 + 1]? = some (xS es k).1.2
 | [], k, h => absurd h (Nat.not_lt_zero _)
 | x :: es, 0, _ => by simp [lH, xq, xS]
 | x :: es, k + 1, h => by
  have ih := FM es k (by simpa using h)
  have e : (k + 1) * 2 = k * 2 + 1 + 1 := by omega
  have e2 : xS (x :: es) (k + 1) = xS es k := by simp [xS]
  have e3 : lH (x :: es) = x.1.1 :: x.1.2 :: lH es := by simp [lH, xq]
  rw [e2, e3, e]
  simp only [List.getElem?_cons_succ]
  exact ih
def iE (base : Nat) (w : World) (v : Value) (es : List mz) : Prop :=
 w.ownsRow base 39 2 v es.length (lH es) ∧ ∀ x ∈ es, aC (fun b => some b ≠ v.ownBlock) w (.agg #[x.1.1, x.1.2]) x.2
theorem iE.nil (base : Nat) (w : World) : iE base w (.slice none 0 0) [] := ⟨World.ownsRow_nil _ _ _ _, fun _ h => by cases h⟩
theorem iE.up {base : Nat} {w w' : World} {v : Value} {es : List mz} (h : iE base w v es) (hu : Up w w') : iE base w' v es :=
 ⟨FI h.1 fun b hb => Below.block hu b (World.ownsRow.lt h.1 b hb).2, fun x hx => (h.2 x hx).keep (hu.kept _)⟩
theorem iE.form {base : Nat} {w : World} {v : Value} {es : List mz} (h : iE base w v es) : ∃ p c, v = .slice p es.length c := by
 rcases h.1.2 with ⟨e, h0⟩ | ⟨g, cap, cur, e, _⟩
 ·exact ⟨none, 0, by rw [e, h0]⟩
 ·exact ⟨_, _, e⟩
theorem WZ {es : List mz} {k : Nat} (h : k < es.length) : xS es k ∈ es := by simp [xS, h]
theorem iE.trees {base : Nat} {w : World} {v : Value} {es : List mz} (h : iE base w v es) : dz Any w v (es.map (·.2)) := by
 obtain ⟨ho, hT⟩ := h
 have hgt : ∀ k, k < es.length → gt (es.map (·.2)) k = (xS es k).2 := fun k hk => by simp [gt, xS, hk]
 rcases ho.2 with ⟨e, h0⟩ | ⟨g, cap, cur, e, hg, hc, hn, hcm, hcs, ht⟩
 ·have Gu : es.length = 0 := h0
  have : es = [] := List.eq_nil_of_length_eq_zero Gu
  subst this
  subst e
  exact dz.nil _ _
 ·subst e
  refine ⟨_, cap, by rw [List.length_map], by rw [List.length_map]; exact hn, .inr ⟨g, 0, rfl, trivial, fun k hk => ?_⟩⟩
  rw [List.length_map] at hk
  rw [hgt k hk]
  obtain ⟨c0, c1⟩ := FM es k hk
  refine ⟨(xS es k).1.1, (xS es k).1.2, ?_, ?_, (hT _ (WZ hk)).sub fun _ _ _ => trivial⟩
  ·rw [Nat.zero_add, ho.cellAt (k * 2) (by omega)]; exact c0
  ·rw [Nat.zero_add, ho.cellAt (k * 2 + 1) (by omega)]; exact c1
section
variable {P : Program} {ops : Array Oper} {rest : List Oper} {o : Oper} {a : Act} {Q : Exit → Act → World → Prop}
theorem tG (W : World) (hgd : o.guard = none) (s x : Operand) (t : TypeId) (ho : o.op = .call { callee := .builtin .append, args := #[s, x], argTypes := #[t, t] })
  (base : Nat) (z : Value) (bytes : Nat) (ht : P.underlying t = some (.slice 39)) (hinfo : (P.info? 39).map (fun i => (i.zero, i.size, i.bytes)) = some (some z, 2, bytes))
  (hz1 : z.cells.size = 2) (nU : bytes ≤ 64) {v : Value} {es : List mz} (hown : iE base W v es) (hs : a.eval s = v) (G : mz)
  (hx : a.eval x = .slice (some ⟨W.heap.size, 0, none⟩) 1 1) (hu : aC (fun b => some b ≠ v.ownBlock) W (.agg #[G.1.1, G.1.2]) G.2) (n : Nat) (mC : es.length = n) (hn : n ≤ 1000000) (hbase : base ≤ W.heap.size)
  (h : ∀ g cap w', iE base w' (.slice (some ⟨g, 0, none⟩) (n + 1) cap) (es ++ [G]) → W.grownBy w' v.ownBlock → Below base W w' → wpList P ops Q rest (a.put o.dst (.slice (some ⟨g, 0, none⟩) (n + 1) cap)) w') :
  wpList P ops Q (o :: rest) a (W.alloc (.cells #[G.1.1, G.1.2] 39)) := by
 subst mC
 obtain ⟨i, hi, hzz⟩ := Option.map_eq_some_iff.1 hinfo
 simp only [Prod.mk.injEq] at hzz
 obtain ⟨hz, hs1, hb⟩ := hzz
 obtain ⟨hown, hrows⟩ := hown
 have h1 : G.1.1.oneCell' = true ∧ G.1.2.oneCell' = true := by
  obtain ⟨P1, N1, e, hP, hN⟩ := hu
  injection e with e
  have e1 : G.1.1 = P1 ∧ G.1.2 = N1 := by simpa using e
  obtain ⟨p, c, e2, _⟩ := aD.open hP
  obtain ⟨q, d, e3, _⟩ := aD.open hN
  rw [e1.1, e1.2, e2, e3]; exact ⟨rfl, rfl⟩
 refine wpList_append_lies _ hgd s x t ho base 39 i z 2 bytes ht hi hz hs1 hb hz1 (by omega) v es.length (lH es) hs (hown.alloc _) ⟨W.heap.size, 0, none⟩ 1 1 (xq G) hx rfl ?_ (fun q hq => by
  unfold xq at hq
  rcases List.mem_cons.1 hq with e | hq
  ·subst e; exact h1.1
  ·rw [List.mem_singleton.1 hq]; exact h1.2) (by omega)
  (by unfold maxLen; omega) ?_ (by simp; omega) _ rfl fun g cap w' h2 h3 h4 _ => ?_
 ·intro j u' hj
  match j with
  | 0 =>
   obtain rfl : G.1.1 = u' := by simpa [xq] using hj
   exact aT W _ _ 0
  | 1 =>
   obtain rfl : G.1.2 = u' := by simpa [xq] using hj
   exact aT W _ _ 1
  | j + 2 => simp [xq] at hj
 ·have : (es.length + 1) * bytes ≤ (es.length + 1) * 64 := Nat.mul_le_mul_left _ nU
  omega
 ·have hg := jb h3
  have JW : ∀ b : Nat, some b ≠ v.ownBlock → b < W.heap.size → some b ≠ (Value.slice (some ⟨g, 0, none⟩) (es.length + 1) cap).ownBlock := fun b hb hlt e => by
   simp only [Value.ownBlock, Option.some.injEq] at e
   rcases h4 with h4 | h4
   ·exact hb (by rw [h4, e])
   ·rw [World.size_alloc] at h4; omega
  have hkeep : ∀ {u' : Value} {y' : ax}, aC (fun b => some b ≠ v.ownBlock) W u' y' → aC (fun b => some b ≠ (Value.slice (some ⟨g, 0, none⟩) (es.length + 1) cap).ownBlock) w' u' y' := fun hi' => by
   obtain ⟨P1, N1, e, hP, hN⟩ := hi'
   have k : Kept (fun b => some b ≠ v.ownBlock ∧ b < W.heap.size) W w' := fun b hb hlt => hg.block b hlt hb.1
   exact ⟨P1, N1, e, (aB.keep (hP.sub fun b hb hlt => ⟨hb, hlt⟩) k).sub fun b hb _ => JW b hb.1 hb.2, (av.keep (hN.sub fun b hb hlt => ⟨hb, hlt⟩) k).sub fun b hb _ => JW b hb.1 hb.2⟩
  refine h g cap w' ⟨by rw [List.length_append, KQ]; exact h2, fun x hx => ?_⟩ hg (Below.grown (Below.refl _ _) hg hbase fun k hk => (World.ownsRow.lt hown k hk).1)
  rcases List.mem_append.1 hx with hx | hx
  ·exact hkeep (hrows x hx)
  ·rw [List.mem_singleton.1 hx]; exact hkeep hu
end
theorem Tryz.infoTree : (Tryz.prog.info? 39).map (fun i => (i.zero, i.size, i.bytes)) = some (some (.agg #[.slice none 0 0, .slice none 0 0]), 2, 48) := by kernel_rfl
end
section
open Go.RowKit Go.Deep
structure qO (lo : Nat) (w w2 wr : World) (tv : Value) (L : List ByteArray) : Prop where
 up : Up w wr
 sz : w.heap.size ≤ lo ∧ lo ≤ w2.heap.size ∧ w2.heap.size ≤ wr.heap.size
 own : aA w.heap.size 9 wr tv (L.map Value.string)
 blk : ∀ b, tv.ownBlock = some b → b < lo ∨ w2.heap.size ≤ b
 keep : ∀ b, lo ≤ b → b < w2.heap.size → wr.heap[b]? = w2.heap[b]?
section
variable {lo : Nat} {w w2 wr W : World} {tv : Value} {L : List ByteArray} {s : ByteArray} {g cap k j : Nat}
theorem qO.next (h : qO lo w w2 wr tv L) (hu : Up wr W) : qO lo w w2 W tv L := by
 obtain ⟨z1, z2, z3⟩ := h.sz
 exact ⟨h.up.trans hu, ⟨z1, z2, Nat.le_trans z3 hu.size⟩, h.own.eV fun b hb => Below.block hu b (aF h.own hb).2, h.blk, fun b h1 h2 => (Below.block hu b (by omega)).trans (h.keep b h1 h2)⟩
theorem qO.app (h : qO lo w w2 wr tv L) (ho : aA w.heap.size 9 W (.slice (some ⟨g, 0, none⟩) k cap) (L.map Value.string ++ [.string s])) (hg : wr.grownBy W tv.ownBlock) (eR : tv.ownBlock = some g ∨ wr.heap.size ≤ g) : qO lo w w2 W (.slice (some ⟨g, 0, none⟩) k cap) (L ++ [s]) := by
 have hlo := fun b hb => (aF h.own (b := b) hb)
 obtain ⟨z1, z2, z3⟩ := h.sz
 refine ⟨⟨hg.os.trans h.up.os, hg.tape.trans h.up.tape, hg.output.trans h.up.output, Nat.le_trans h.up.size hg.size, fun b hb => ?_⟩, ⟨z1, z2, Nat.le_trans z3 hg.size⟩, by rw [List.map_append]; exact ho, fun b hb => ?_, fun b h1 h2 => ?_⟩
 ·have := h.up.size
  exact (hg.block b (by omega) fun e => by have := (hlo b e.symm).1; omega).trans (h.up.block b hb)
 ·have hb : some g = some b := hb
  injection hb with hb
  subst hb
  rcases eR with e | e
  ·exact h.blk g e
  ·exact .inr (Nat.le_trans z3 e)
 ·refine (hg.block b (by omega) fun e => ?_).trans (h.keep b h1 h2)
  rcases h.blk b e.symm with e | e <;> omega
theorem qO.set (h : qO lo w w2 wr tv L) (hj : j < L.length) : ∃ g cap, tv = .slice (some ⟨g, 0, none⟩) L.length cap ∧ wr.cell? ⟨g, j, none⟩ = some (.string (gs L j)) ∧ wr.frozen? ⟨g, j, none⟩ = false ∧ ∀ x, qO lo w w2 (wr.setCell ⟨g, j, none⟩ (.string x)) tv (L.set j x) := by
 obtain ⟨g, cap, e, h1, h2, h3, h4, h5⟩ := h.own.set (j := j) (by rw [List.length_map]; exact hj)
 have hgd : (L.map Value.string).getD j undef = .string (gs L j) := by simp [gs, hj]
 rw [hgd] at h3
 rw [List.length_map] at e
 refine ⟨g, cap, e, h3, h4, fun x => ?_⟩
 have b8 : ∀ b, b ≠ g → (wr.setCell ⟨g, j, none⟩ (.string x)).heap[b]? = wr.heap[b]? := fun b hb => blk_setCell_other _ _ _ _ hb
 have hbk : g < lo ∨ w2.heap.size ≤ g := h.blk g (by rw [e]; rfl)
 obtain ⟨z1, z2, z3⟩ := h.sz
 refine ⟨Below.setCell (p := ⟨g, j, none⟩) h.up h1 _, ⟨z1, z2, by rw [World.size_setCell]; exact z3⟩, ?_, h.blk, fun b q1 q2 => (b8 b (by omega)).trans (h.keep b q1 q2)⟩
 have h6 := h5 (.string x)
 rw [← List.map_set] at h6
 exact h6
theorem qO.strs {v : Value} {T : List ByteArray} (h : qO lo w w2 wr tv L) (hT : av (fun b => lo ≤ b ∧ b < w2.heap.size) w2 v T) : av (fun b => lo ≤ b ∧ b < w2.heap.size) wr v T := av.keep hT fun b hb _ => h.keep b hb.1 hb.2
end
def tH (xs : List ByteArray) (k : Nat) (j : ByteArray) : List ByteArray := xs.take k ++ j :: xs.drop k
theorem Ka {xs : List ByteArray} {k : Nat} {j : ByteArray} : (tH xs k j).length = xs.length + 1 := by
 unfold tH
 rw [List.length_append, List.length_cons, List.length_take, List.length_drop]
 omega
theorem TR (xs : List ByteArray) (s : ByteArray) : xs ++ [s] = tH xs xs.length s := by unfold tH; simp
theorem W4 {xs : List ByteArray} {k : Nat} {j : ByteArray} (h0 : 0 < k) (hk : k ≤ xs.length) : gs (tH xs k j) (k - 1) = gs xs (k - 1) := by
 unfold tH gs
 rw [List.getD_eq_getElem?_getD, List.getD_eq_getElem?_getD, List.getElem?_append_left (by rw [List.length_take]; omega), List.getElem?_take_of_lt (by omega)]
theorem Q2 {xs : List ByteArray} {k : Nat} {j s : ByteArray} (hk : k ≤ xs.length) : (tH xs k j).set k s = tH xs k s := by
 unfold tH
 rw [List.set_append, if_neg (by rw [List.length_take]; omega)]
 have : k - (xs.take k).length = 0 := by rw [List.length_take]; omega
 rw [this]; rfl
theorem TS {xs : List ByteArray} {k : Nat} {j : ByteArray} (h0 : 0 < k) (hk : k ≤ xs.length) : (tH xs k j).set k (gs xs (k - 1)) = tH xs (k - 1) (gs xs (k - 1)) := by
 rw [Q2 hk]
 unfold tH
 obtain ⟨m, rfl⟩ : ∃ m, k = m + 1 := ⟨k - 1, by omega⟩
 have hg : gs xs (m + 1 - 1) = xs[m] := by simp [gs, show m < xs.length by omega]
 have hd : xs.drop m = xs[m] :: xs.drop (m + 1) := List.drop_eq_getElem_cons (by omega)
 rw [hg, Nat.add_sub_cancel, List.take_succ_eq_append_getElem (by omega), List.append_assoc, ← hd]; rfl
end
section
open Go.RowKit Go.Deep
def VI (names : List ByteArray) (k : Nat) : Int := iI (names.take k) (gs names k)
theorem W5 (names : List ByteArray) {k : Nat} (hk : k < names.length) : dI names k = decide (0 ≤ VI names k) := by
 unfold VI
 have h1 : 0 ≤ iI (names.take k) (gs names k) ↔ ∃ j, j < (names.take k).length ∧ gs (names.take k) j = gs names k := F9
 have h2 : dI names k = true ↔ ∃ j, j < k ∧ gs names j = gs names k := by
  unfold dI
  rw [List.any_eq_true]
  constructor
  ·rintro ⟨j, hj, h⟩; exact ⟨j, List.mem_range.1 hj, of_decide_eq_true h⟩
  ·rintro ⟨j, hj, h⟩; exact ⟨j, List.mem_range.2 hj, decide_eq_true h⟩
 have h3 : (∃ j, j < (names.take k).length ∧ gs (names.take k) j = gs names k) ↔ ∃ j, j < k ∧ gs names j = gs names k := by
  have hl : (names.take k).length = k := by rw [List.length_take]; omega
  rw [hl]
  constructor
  ·rintro ⟨j, hj, h⟩; exact ⟨j, hj, by rw [← h]; simp [gs, hj]⟩
  ·rintro ⟨j, hj, h⟩; exact ⟨j, hj, by rw [← h]; simp [gs, hj]⟩
 by_cases e : dI names k = true
 ·rw [e, decide_eq_true (h1.2 (h3.2 (h2.1 e)))]
 ·rw [Bool.not_eq_true] at e
  rw [e, decide_eq_false fun h => by rw [h2.2 (h3.1 (h1.1 h))] at e; cases e]
set_option maxHeartbeats 2000000 in
theorem Db (S : Nat → Prop) (w : World) (v : Value) (names : List ByteArray) (h : av S w v names) (hn : names.length ≤ 1000000) (hz : ∀ k, (gs names k).size ≤ 70000) :
  Calls Tryz.prog 95 #[v] w fun e w' => e = .returned (.int .i64 (bZ names)) ∧ Up w w' := by
 obtain ⟨p, cap, rfl, hcap, _⟩ := aD.open h
 have h : av S w (.slice p names.length cap) names := h
 have HC : Hid (bZ names = if names.length < 2 ∨ 7 < names.length then 4 else firstNZ (dW names) names.length) := rfl
 have HN := aa h
 have HZ := aa hz
 clear h hz
 by_cases h1 : names.length < 2
 ·go_enter Tryz.func95, Tryz.ntmps95
  go_wp2_with fail
  go_ret
  exact ⟨aO (by rw [HC.out, if_pos (.inl h1)]), Up.refl _⟩
 by_cases h2 : 7 < names.length
 ·go_enter Tryz.func95, Tryz.ntmps95
  go_wp2_with fail
  go_ret
  exact ⟨aO (by rw [HC.out, if_pos (.inr h2)]), Up.refl _⟩
 have HF : Hid (bZ names = firstNZ (dW names) names.length) := by unfold Hid; rw [HC.out, if_neg (by omega)]
 clear HC
 have CT : Hid (∀ k, k < names.length → (∀ j, j < k → dW names j = 0) → dW names k ≠ 0 → bZ names = dW names k) := fun k hk hj h0 => by
  rw [HF.out, fZ hk hj h0]
 go_enter Tryz.func95, Tryz.ntmps95
 go_wp2_with fail
 go_loopw [3] (fun i wr => ∃ k : Nat, k ≤ names.length ∧ i = .int .i64 k ∧ Hid (Up w wr ∧ ∀ j, j < k → dW names j = 0)) (fun i _ => names.length - (intOf i).toNat)
 case atStart => exact ⟨0, Nat.zero_le _, rfl, Up.refl _, fun j hj => absurd hj (Nat.not_lt_zero _)⟩
 case round =>
  obtain ⟨k, hk, rfl, hd⟩ := hrel
  obtain ⟨wo, rfl⟩ : ∃ wo : World, wo = wr := ⟨_, rfl⟩
  by_cases hlt : k < names.length
  ·have JY := av.keep HN.out (hd.out.1.kept S)
   obtain ⟨VE, no, rfl, hc⟩ := cu JY hlt
   have iF := aa (Q0 (gs names k) (HZ.out k) wo)
   have zS : Hid (∀ W, Up wo W → ∀ m, Calls Tryz.prog 151 #[.slice (some ⟨VE, no, none⟩) k cap, .string (gs names k)] (W.drewN m) fun e w'' => e = .returned (.int .i64 (VI names k)) ∧ ∃ m', w'' = W.drewN m') := fun W hW m => by
    have h1 := ET (av.keep JY ((hW.trans (Up.drewN _ m)).kept S)) hk
    have h2 : av S (W.drewN m) (.slice (some ⟨VE, no, none⟩) k cap) (names.take k) := by
     have hl : (names.take k).length = k := by rw [List.length_take]; omega
     have h3 := h1.congr (g := fun j => .string (gs (names.take k) j)) fun j hj => by simp [gs, hj]
     unfold av
     rw [hl]; exact h3
    exact (NT S (W.drewN m) _ (names.take k) (gs names k) h2 (by rw [List.length_take]; omega)).mono fun e w' ⟨h4, h5⟩ => ⟨h4, m, h5.symm⟩
   have uV := aa (W5 names hlt)
   have JZ := aa (CT.out k hlt hd.out.2)
   have J1 : Hid (dW names k = if aZ (gs names k).data.toList then (if dI names k then 7 else 0) else 14) := rfl
   generalize VI names k = ix at *
   generalize gs names k = nm at *
   generalize dI names k = bs at *
   generalize aZ nm.data.toList = bn at *
   clear JY
   cases bn
   ·have HE : Hid (dW names k = 14) := J1.out
    go_wp2_with fail
    refine iF.out.mono ?_
    rintro e w1 ⟨rfl, aX⟩
    have bT := aa (hd.out.1.trans aX)
    clear aX
    go_wp2_with fail
    go_ret
    exact ⟨aO ((JZ.out (by rw [HE.out]; decide)).trans HE.out).symm, bT.out⟩
   ·cases bs
    ·have HE : Hid (dW names k = 0) := J1.out
     go_wp2_with fail
     refine iF.out.mono ?_
     rintro e w1 ⟨rfl, aX⟩
     have bT := aa (hd.out.1.trans aX)
     have Bv := aa (zS.out w1 aX)
     have hc1 := (show Up wo w1 from aX).cell hc
     have d9 : decide (0 ≤ ix) = false := by have := uV.out; simp at this; simp; omega
     clear aX
     go_wp2_with fail
     go_quiet (with_reducible exact Bv.out _)
     go_wp2_with fail
     go_roundw
     case rel => exact ⟨k + 1, by omega, by go_num, bT.out.trans (Up.drewN _ _), fun j hj => if e : j = k then by subst e; exact HE.out else hd.out.2 j (by omega)⟩
     case measure => simp [intOf]; omega
    ·have HE : Hid (dW names k = 7) := J1.out
     go_wp2_with fail
     refine iF.out.mono ?_
     rintro e w1 ⟨rfl, aX⟩
     have bT := aa (hd.out.1.trans aX)
     have Bv := aa (zS.out w1 aX)
     have hc1 := (show Up wo w1 from aX).cell hc
     have d9 : decide (0 ≤ ix) = true := by have := uV.out; simp at this; simp; omega
     clear aX
     go_wp2_with fail
     go_quiet (with_reducible exact Bv.out _)
     go_wp2_with fail
     go_ret
     exact ⟨aO ((JZ.out (by rw [HE.out]; decide)).trans HE.out).symm, bT.out.trans (Up.drewN _ _)⟩
  ·obtain rfl : k = names.length := by omega
   have qZ : Hid (bZ names = 0) := by unfold Hid; rw [HF.out, eN hd.out.2]
   go_wp2_with fail
   go_ret
   exact ⟨aO qZ.out.symm, hd.out.1⟩
end
end Go.Proofs.YteegefnjnikngaaGreat
