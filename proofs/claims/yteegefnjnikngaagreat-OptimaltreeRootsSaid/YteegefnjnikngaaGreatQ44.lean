/- optimaltree.Score. optimaltree.All. Reference 34: SameTrees. optimaltree.Bound. -/
import Derived.Test.YteegefnjnikngaaGreatQ1
import Derived.Test.YteegefnjnikngaaGreatQ43
import Derived.Test.YteegefnjnikngaaGreatQ41
import Derived.Test.YteegefnjnikngaaGreatQ38
import Derived.Test.YteegefnjnikngaaGreatQ7
import Derived.Test.YteegefnjnikngaaGreatQ39
import Derived.Test.YteegefnjnikngaaGreatQ11
import Derived.Test.YteegefnjnikngaaGreatQ8
set_option maxRecDepth 100000
namespace Go.Proofs.YteegefnjnikngaaGreat
section
open Go.RowKit Go.Deep
theorem W6 {names : List ByteArray} (h5 : names.length ≤ 5 ∨ 7 < names.length) (h0 : bZ names = 0) : names.length ≤ 5 := by
 rcases h5 with h5 | h5
 ·exact h5
 ·unfold bZ at h0; rw [if_pos (.inr h5)] at h0; cases h0
theorem Dc {names : List ByteArray} {states : List (List Int)} (h5 : names.length ≤ 5 ∨ 7 < names.length) (h0 : dQ names states = 0) : tC names states := by
 have h1 : bZ names = 0 := by
  unfold dQ at h0
  split at h0
  ·rename_i h; exact absurd h0 h
  ·rename_i h; omega
 exact (JL (W6 h5 h1)).1 h0
def qP (w : World) (t : ax) (names : List ByteArray) (states : List (List Int)) (e : Ending) (w' : World) : Prop := Up w w' ∧ e = .returned (.tuple #[.int .i64 (vK t names states), .int .i64 (jL t names states)])
set_option maxHeartbeats 2000000 in
theorem NV (S : Nat → Prop) (w : World) (v vn vs : Value) (t : ax) (names : List ByteArray) (states : List (List Int)) (hT : aC S w v t) (hp : t.ps.length ≤ 1000000) (hnt : t.ns.length ≤ 1000000) (hz : ∀ k, (gs t.ns k).size ≤ 70000) (h : av S w vn names) (hn : names.length ≤ 1000000) (dP : ∀ k, (gs names k).size ≤ 70000) (hS : bh S w vs states) (sr : states.length ≤ 1000000) (hr : ∀ k, (gl states k).length ≤ 1000000) (h5 : names.length ≤ 5 ∨ 7 < names.length) :
  Calls Tryz.prog 23 #[v, vn, vs] w (qP w t names states) := by
 have HZ := aa hz
 obtain ⟨P, N, rfl, hP, hN⟩ := hT
 obtain ⟨np, nc, rfl, -, -⟩ := aD.open hN
 have hN : av S w (.slice np t.ns.length nc) t.ns := hN
 obtain ⟨pp, pc, rfl, -, -⟩ := aD.open hP
 have hP : aB S w (.slice pp t.ps.length pc) t.ps := hP
 obtain ⟨mp, mc, rfl, -, -⟩ := aD.open h
 have h : av S w (.slice mp names.length mc) names := h
 obtain ⟨sp, sc, rfl, -, -⟩ := fL hS
 have sG : Up w (w.alloc (.cells #[.slice pp t.ps.length pc, .slice np t.ns.length nc] 39)) := Up.alloc _ _
 have hrb := fF (w := w) (P := .slice pp t.ps.length pc) (N := .slice np t.ns.length nc) (T := 39)
 obtain ⟨q0, q1, -, -⟩ := boxed hrb
 have HT : Hid (aC S (w.alloc (.cells #[.slice pp t.ps.length pc, .slice np t.ns.length nc] 39)) (.agg #[.slice pp t.ps.length pc, .slice np t.ns.length nc]) t) := ⟨_, _, rfl, aB.keep hP (sG.kept S), av.keep hN (sG.kept S)⟩
 have HN := aa (av.keep h (sG.kept S))
 have HS := aa (bh.keep hS (sG.kept S))
 have fA := aa (FE S _ _ _ names states HN.out hn dP HS.out sr hr)
 have K7 := aa sG
 have HE : Hid (jL t names states = if dQ names states ≠ 0 then dQ names states else if az t ≠ 0 then 1 else if lG t names then 0 else 9) := rfl
 have HR : Hid (vK t names states = if jL t names states = 0 then cN t names states else 0) := rfl
 have zV : Hid (dQ names states = 0 → tC names states) := Dc h5
 clear hP hN h hS hz dP hr h5 hrb sG
 go_enter Tryz.func23, Tryz.ntmps23
 go_wp2_with fail
 generalize w.alloc (.cells #[.slice pp t.ps.length pc, .slice np t.ns.length nc] 39) = w0 at *
 refine fA.out.mono ?_
 rintro e w1 ⟨rfl, aX⟩
 have NW := K7.out.trans aX
 replace q0 := aX.cell q0
 replace q1 := aX.cell q1
 by_cases c1 : dQ names states = 0
 ·have HC := aa (zV.out c1)
  have IQ := aa (oV S w1 _ t (HT.out.keep (aX.kept S)) hp hnt HZ.out)
  have y7 : Hid (jL t names states = if az t ≠ 0 then 1 else if lG t names then 0 else 9) := by unfold Hid; rw [HE.out, if_neg (by omega)]
  have bT := aa aX
  have HU01 := aa NW
  rw [c1]
  clear aX NW c1 HE fA zV
  go_wp2_with fail
  refine IQ.out.mono ?_
  rintro e w2 ⟨rfl, hb⟩
  have aK : Up w1 w2 := hb
  replace q0 := aK.cell q0
  replace q1 := aK.cell q1
  have HU02 := aa (HU01.out.trans aK)
  by_cases c2 : az t = 0
  ·have bH := aa (bT.out.trans aK)
   have vo := aa (FL S w2 _ _ _ t names states (HT.out.keep (bH.out.kept S)) c2 HZ.out (av.keep HN.out (bH.out.kept S)) (bh.keep HS.out (bH.out.kept S)) HC.out)
   have HX : Hid (qp t names states = .tuple #[.int .i64 (vK t names states), .int .i64 (jL t names states)]) := by
    unfold Hid qp
    have e9 : jL t names states = if lG t names then 0 else 9 := by rw [y7.out, if_neg fun e : az t ≠ 0 => e c2]
    rw [HR.out, e9]
    cases lG t names <;> simp
   have eD : Hid (∀ W, Up w W → qP w t names states (.returned (.tuple #[.int .i64 (vK t names states), .int .i64 (jL t names states)])) W) := fun W hW => ⟨hW, rfl⟩
   rw [c2]
   clear hb aK c2 IQ
   rw [HX.out] at vo
   generalize vK t names states = a at *
   generalize jL t names states = c at *
   go_wp2_with fail
   refine vo.out.mono ?_
   rintro e w3 ⟨rfl, cF⟩
   have dS := aa (eD.out _ (HU02.out.trans cF))
   clear cF vo
   go_wp2_with fail
   go_ret2
   exact dS.out
  ·have eD : Hid (qP w t names states (.returned (.tuple #[.int .i64 0, .int .i64 1])) w2) := by
    refine ⟨HU02.out, ?_⟩
    have e1 : jL t names states = 1 := by rw [y7.out, if_pos c2]
    rw [HR.out, e1]; rfl
   generalize az t = a at *
   clear hb aK IQ
   go_wp2_with fail
   go_ret2
   exact eD.out
 ·have eD : Hid (qP w t names states (.returned (.tuple #[.int .i64 0, .int .i64 (dQ names states)])) w1) := by
   refine ⟨NW, ?_⟩
   have e1 : jL t names states = dQ names states := by rw [HE.out, if_pos c1]
   rw [HR.out, e1, if_neg c1]
  generalize dQ names states = a at *
  clear aX NW fA
  go_wp2_with fail
  go_ret2
  exact eD.out
end
section
open Go.RowKit Go.Deep
def p7 (w : World) (names : List ByteArray) (e : Ending) (w' : World) : Prop :=
 Up w w' ∧ ∃ v, e = .returned (.tuple #[v, .int .i64 (bZ names)]) ∧ dz Any w' v (if bZ names = 0 then allT names else [])
theorem FN {w : World} {v : Value} {qs : List RT} (h : vO w v qs) : ∃ g cap, v = .slice (some ⟨g, 0, none⟩) qs.length cap := by
 obtain ⟨g, cap, es, e1, _⟩ := h
 exact ⟨g, cap, e1⟩
theorem BA {w : World} {g n cap : Nat} {qs : List RT} (h : vO w (.slice (some ⟨g, 0, none⟩) n cap) qs) {k : Nat} (hk : k < qs.length) :
  ∃ pp pc np nc, w.cell? ⟨g, k * 3, none⟩ = some (.slice pp (gt (qs.map flat) k).ps.length pc) ∧ w.cell? ⟨g, k * 3 + 1, none⟩ = some (.slice np (gt (qs.map flat) k).ns.length nc) ∧ w.cell? ⟨g, k * 3 + 2, none⟩ = some (.string (aW (qs.getD k (.node ByteArray.empty [])))) ∧ aC Any w (.agg #[.slice pp (gt (qs.map flat) k).ps.length pc, .slice np (gt (qs.map flat) k).ns.length nc]) (gt (qs.map flat) k) := by
 obtain ⟨g', cap', es, e1, e2, h1, h2⟩ := h
 injection e1 with e1
 injection e1 with e1
 injection e1 with e1
 subst e1; subst e2
 rw [List.length_map] at hk
 obtain ⟨c0, c1, c2⟩ := h1 k hk
 have hg : gt ((es.map (·.2)).map flat) k = flat (ge es k).2 := by simp [gt, ge, hk]
 have hg2 : (es.map (·.2)).getD k (.node ByteArray.empty []) = (ge es k).2 := by simp [ge, hk]
 have h3 := h2 _ (ge_mem hk)
 rw [hg, hg2]
 obtain ⟨P1, N1, e, hP, hN⟩ := h3
 injection e with e
 have e1 : (ge es k).1.1 = P1 ∧ (ge es k).1.2 = N1 := by simpa using e
 obtain ⟨pp, pc, e2, _, _⟩ := aD.open hP
 obtain ⟨np, nc, e3, _, _⟩ := aD.open hN
 rw [← e1.1] at e2
 rw [← e1.2] at e3
 rw [e2] at c0
 rw [e3] at c1
 refine ⟨pp, pc, np, nc, c0, c1, c2, _, _, rfl, ?_, ?_⟩
 ·rw [← e2, e1.1]; exact hP
 ·rw [← e3, e1.2]; exact hN
theorem D2 {ts : List ax} {n : Nat} (h : n < ts.length) : ts.take (n + 1) = ts.take n ++ [gt ts n] := by
 rw [List.take_succ_eq_append_getElem h]; simp [gt, h]
def VJ (w : World) (names : List ByteArray) (n : Nat) (out : Value) (wr : World) : Prop := Up w wr ∧ ∃ es : List mz, iE w.heap.size wr out es ∧ es.map (·.2) = (allT names).take n
set_option maxHeartbeats 8000000 in
theorem W8 (S : Nat → Prop) (w : World) (v : Value) (names : List ByteArray) (h : av S w v names) (hn : names.length ≤ 1000000) (hz : ∀ k, (gs names k).size ≤ 70000) (h5 : names.length ≤ 5 ∨ 7 < names.length) :
  Calls Tryz.prog 31 #[v] w (p7 w names) := by
 have iF := aa (vP S w v names h hn hz)
 obtain ⟨p, cap, rfl, hcap, -⟩ := aD.open h
 have h : av S w (.slice p names.length cap) names := h
 have vS : Hid (∀ W, Up w W → bZ names = 0 → Calls Tryz.prog 73 #[.slice p names.length cap] W (J2 W names)) := fun W hW h0 => by
  have Q3 : names.length ≤ 5 := by
   rcases h5 with h5 | h5
   ·exact h5
   ·unfold bZ at h0; rw [if_pos (.inr h5)] at h0; cases h0
  exact FJ S W _ names ((ng Q3).1 h0) (av.keep h (hW.kept S))
 have HAC : Hid (bZ names = 0 → (allT names).length ≤ 15) := fun h0 => by
  have Q3 : names.length ≤ 5 := by
   rcases h5 with h5 | h5
   ·exact h5
   ·unfold bZ at h0; rw [if_pos (.inr h5)] at h0; cases h0
  unfold allT
  rw [List.length_map, rS ((ng Q3).1 h0)]
  split <;> (try split) <;> (try split) <;> omega
 clear h hz h5
 go_enter Tryz.func31, Tryz.ntmps31
 go_wp2_with fail
 refine iF.out.mono ?_
 rintro e w1 ⟨rfl, aX⟩
 have bT := aa aX
 have Kb := aa (vS.out w1 aX)
 clear aX iF vS
 by_cases c1 : bZ names = 0
 ·have Kc := aa (Kb.out c1)
  have iH := aa (HAC.out c1)
  have eD : Hid (∀ W v, Up w W → dz Any W v (allT names) → p7 w names (.returned (.tuple #[v, .int .i64 0])) W) := fun W v hu ht => ⟨hu, v, by rw [c1], by rw [if_pos c1]; exact ht⟩
  rw [c1]
  clear c1 Kb HAC
  go_wp2_with fail
  refine Kc.out.mono ?_
  rintro e w2 ⟨aK, ev, rfl, Ke⟩
  obtain ⟨eg, ec, rfl⟩ := FN Ke
  have y7 := aa Ke
  have bH := aa (bT.out.trans aK)
  have eT : Hid ((allT names).length = (bD names).length) := by unfold allT; rw [List.length_map]; exact rfl
  have y8 : Hid (VJ w2 names 0 (.slice none 0 0) w2) := ⟨Up.refl _, [], iE.nil _ _, by simp⟩
  clear Ke aK Kc bT
  go_wp2_with fail
  go_loopw [7, 9, 25] (fun out _ i wr => ∃ n : Nat, n ≤ (bD names).length ∧ i = .int .i64 n ∧ Hid (VJ w2 names n out wr)) (fun _ _ i _ => (bD names).length - (intOf i).toNat)
  case atStart => exact ⟨0, Nat.zero_le _, rfl, y8.out⟩
  case round =>
   obtain ⟨n, hn, rfl, hI⟩ := hrel
   obtain ⟨wo, rfl⟩ : ∃ wo : World, wo = wr := ⟨_, rfl⟩
   obtain ⟨gH, es, hes, hem⟩ := hI.out
   by_cases hlt : n < (bD names).length
   ·have hEo := y7.out.keep gH
    obtain ⟨pp, pc, np, nc, c0, c1, c2, hT⟩ := BA y7.out hlt
    replace c0 := gH.cell c0
    replace c1 := gH.cell c1
    replace c2 := gH.cell c2
    have hlt2 : n < (allT names).length := by rw [eT.out]; exact hlt
    have kP : es.length = n := by
     have := congrArg List.length hem
     rw [List.length_map, List.length_take] at this
     omega
    have jP : Hid ((allT names).take (n + 1) = es.map (·.2) ++ [gt (allT names) n]) := by unfold Hid; rw [D2 hlt2, hem]
    replace hT : aC (fun b => b < w2.heap.size) wo (.agg #[.slice pp (gt (allT names) n).ps.length pc, .slice np (gt (allT names) n).ns.length nc]) (gt (allT names) n) := aC.keep (hT.sub fun b _ hb => hb) (gH.kept _)
    replace c0 : wo.cell? ⟨eg, n * 3, none⟩ = some (.slice pp (gt (allT names) n).ps.length pc) := c0
    replace c1 : wo.cell? ⟨eg, n * 3 + 1, none⟩ = some (.slice np (gt (allT names) n).ns.length nc) := c1
    generalize gt (allT names) n = q at *
    generalize aW ((bD names).getD n (.node ByteArray.empty [])) = key at *
    obtain ⟨op, oc, rfl⟩ := hes.form
    rw [kP]
    have bq := Up.alloc wo (.cells #[.slice pp q.ps.length pc, .slice np q.ns.length nc, .string key] 99)
    have uq : Hid (iE w2.heap.size (wo.alloc (.cells #[.slice pp q.ps.length pc, .slice np q.ns.length nc, .string key] 99)) (.slice op n oc) es) := by have h := hes.up bq; rw [kP] at h; exact h
    have AA : Hid (aC (fun b => some b ≠ (Value.slice op n oc).ownBlock) (wo.alloc (.cells #[.slice pp q.ps.length pc, .slice np q.ns.length nc, .string key] 99)) (.agg #[.slice pp q.ps.length pc, .slice np q.ns.length nc]) q) := by
     have h2 := hes.1
     rw [kP] at h2
     exact (hT.keep (bq.kept _)).sub fun b hb _ e => by have := (World.ownsRow.lt h2 b e.symm).1; omega
    have vu := aa (gH.trans bq)
    have aY := aa hlt2
    have HLN2 := aa kP
    have i4 : (n : Int) < ((bD names).length : Int) := by omega
    have i5 : (n : Int) < 16 := by have := iH.out; omega
    clear hI gH hes hem hlt hlt2 hT bq kP
    go_wp2_with (at_builtin; go_loud (refine tG _ rfl _ _ 33 rfl w2.heap.size _ 48 Tryz.underlying33 Tryz.infoTree rfl (by decide) uq.out rfl ((.slice pp q.ps.length pc, .slice np q.ns.length nc), q) (by rw [World.size_alloc]; rfl) AA.out n HLN2.out (by have := aY.out; have := iH.out; omega) vu.out.size ?_); intro g8 iz w8 cA dw tE; have J6 := aa cA; have oQ := aa tE; clear cA dw tE)
    go_roundw
    case rel => exact ⟨n + 1, by have := aY.out; rw [eT.out] at this; omega, by go_num, Below.trans (show Below w2.heap.size w2 _ from vu.out) oQ.out, _, J6.out, by rw [jP.out, List.map_append]; rfl⟩
    case measure => have := aY.out; rw [eT.out] at this; simp [intOf]; omega
   ·obtain rfl : n = (bD names).length := by omega
    have tF : es.map (·.2) = allT names := by rw [hem, ← eT.out, List.take_length]
    have oT := aa (eD.out wo _ (bH.out.trans gH) (tF ▸ hes.trees))
    clear hI gH hes hem tF hlt
    go_wp2_with fail
    go_ret2
    exact oT.out
 ·have eD : Hid (p7 w names (.returned (.tuple #[.slice none 0 0, .int .i64 (bZ names)])) w1) := ⟨bT.out, _, rfl, by rw [if_neg c1]; exact dz.nil _ _⟩
  generalize bZ names = a at *
  go_wp2_with fail
  go_ret2
  exact eD.out
end
section
open Go.RowKit Go.Deep
theorem NX {a b : List ax} (hl : a.length = b.length) : (a = b) ↔ ∀ k, k < a.length → gt a k = gt b k := by
 constructor
 ·rintro rfl k _; rfl
 ·intro h
  refine List.ext_getElem hl fun i h1 h2 => ?_
  have := h i h1
  simpa [gt, h1, h2] using this
set_option maxHeartbeats 1000000 in
theorem FZ (S T : Nat → Prop) (w : World) (v u : Value) (a b : List ax) (h : dz S w v a) (h2 : dz T w u b) (hn : a.length ≤ 1000000) (hz : ∀ k, (gt a k).ps.length ≤ 1000000 ∧ (gt a k).ns.length ≤ 1000000) :
  Calls Tryz.prog 34 #[v, u] w fun e w' => e = .returned (.bool (decide (a = b))) ∧ Up w w' := by
 obtain ⟨p, cap, rfl, hcap⟩ := rT h
 obtain ⟨q, dM, rfl, BL⟩ := rT h2
 have HX := aa h
 have HY := aa h2
 have HZ := aa hz
 clear h h2 hz
 by_cases hl : a.length = b.length
 ·have HS := aa (NX hl)
  have gK : ((a.length : Int) != (b.length : Int)) = false := by simp [hl]
  have HL := aa hl
  clear hl
  go_enter Tryz.func34, Tryz.ntmps34
  go_wp2_with fail
  clear gK
  go_loopw [4, 5] (fun _ i wr => ∃ k : Nat, k ≤ a.length ∧ i = .int .i64 k ∧ Hid (Up w wr ∧ ∀ j, j < k → gt a j = gt b j)) (fun _ i _ => a.length - (intOf i).toNat)
  case atStart => exact ⟨0, Nat.zero_le _, rfl, Up.refl _, fun j hj => absurd hj (Nat.not_lt_zero _)⟩
  case round =>
   obtain ⟨k, hk, rfl, hI⟩ := hrel
   obtain ⟨wo, rfl⟩ : ∃ wo : World, wo = wr := ⟨_, rfl⟩
   by_cases hlt : k < a.length
   ·obtain ⟨ab, ao, pp, pc, np, nc, rfl, c0, c1, hT⟩ := ze (HX.out.keep (hI.out.1.kept S)) hlt
    obtain ⟨bb, bo, nA, nB, nC, nD, rfl, d0, d1, Q4⟩ := ze (HY.out.keep (hI.out.1.kept T)) (k := k) (by rw [← HL.out]; exact hlt)
    have HST := aa (CU S T wo _ _ _ _ hT Q4 (HZ.out k).1 (HZ.out k).2)
    have i1 : (0 : Int) ≤ (k : Int) := by omega
    have i2 : (k : Int) < (a.length : Int) := by omega
    have i3 : (k : Int) < (b.length : Int) := by have := HL.out; omega
    have CT : Hid (gt a k ≠ gt b k → decide (a = b) = false) := fun hne => decide_eq_false fun e => hne (HS.out.1 e k hlt)
    have EP : Hid (gt a k = gt b k → Up w wo ∧ ∀ j, j < k + 1 → gt a j = gt b j) := fun e => ⟨hI.out.1, fun j hj => if e2 : j = k then by subst e2; exact e else hI.out.2 j (by omega)⟩
    have xT := aa hI.out.1
    replace HST : Hid (Calls Tryz.prog 44 #[.agg #[.slice pp (gt a k).ps.length pc, .slice np (gt a k).ns.length nc], .agg #[.slice nA (gt b k).ps.length nB, .slice nC (gt b k).ns.length nD]] wo.drew fun e w' => e = .returned (.bool (decide (gt a k = gt b k))) ∧ Up wo w') := (CU S T wo.drew _ _ _ _ (hT.keep ((Up.drewN wo 1).kept _)) (Q4.keep ((Up.drewN wo 1).kept _)) (HZ.out k).1 (HZ.out k).2).mono fun e w' ⟨h1, h2⟩ => ⟨h1, (Up.drewN wo 1).trans h2⟩
    clear hT Q4 hI
    generalize gt a k = x at *
    generalize gt b k = y at *
    by_cases e : x = y
    ·have d9 : decide (x = y) = true := decide_eq_true e
     rw [d9] at HST
     have HIK2 := aa (EP.out e)
     clear e d9 CT EP
     go_wp2_with fail
     refine cU (by kernel_rfl) 9 (fun w' => w'.cell? ⟨ab, ao + k * 2, none⟩ = some (.slice pp x.ps.length pc) ∧ w'.cell? ⟨ab, ao + k * 2 + 1, none⟩ = some (.slice np x.ns.length nc) ∧ w'.cell? ⟨bb, bo + k * 2, none⟩ = some (.slice nA y.ps.length nB) ∧ w'.cell? ⟨bb, bo + k * 2 + 1, none⟩ = some (.slice nC y.ns.length nD)) ⟨c0, c1, d0, d1⟩ (fun hS => ?_)
     simp only [List.size_toArray, List.length_cons, List.length_nil, Nat.reduceAdd, Array.replicate_succ, Array.replicate_zero, List.push_toArray, List.nil_append, List.cons_append]
     refine af.take (i := 0) (v := ?qc) rfl (by kernel_rfl) (fun _ _ _ h => h) (by rfl) (fun w hSw => ?gp) hS ?qd
     case gp =>
      (try dsimp only at hSw)
      go_simp
      try with_reducible rfl
     try simp only [Act.put, aq, ah, au]
     refine af.take (i := 1) (v := ?qf) rfl (by kernel_rfl) (fun _ _ _ h => h) (by rfl) (fun w hSw => ?gq) hS ?qg
     case gq =>
      (try dsimp only at hSw)
      go_simp
      try with_reducible rfl
     try simp only [Act.put, aq, ah, au]
     refine af.take (i := 2) (v := ?rG) rfl (by kernel_rfl) (fun _ _ _ h => h) (by rfl) (fun w hSw => ?gN) hS ?rH
     case gN =>
      (try dsimp only at hSw)
      go_simp
      try with_reducible rfl
     try simp only [Act.put, aq, ah, au]
     refine af.take (i := 3) (v := ?rI) rfl (by kernel_rfl) (fun _ _ _ h => h) (by rfl) (fun w hSw => ?gO) hS ?rJ
     case gO =>
      (try dsimp only at hSw)
      go_simp
      try with_reducible rfl
     try simp only [Act.put, aq, ah, au]
     refine af.take (i := 4) (v := ?rK) rfl (by kernel_rfl) (fun _ _ _ h => h) (by rfl) (fun w hSw => ?gP) hS ?rL
     case gP =>
      (try dsimp only at hSw)
      go_simp
      try with_reducible rfl
     try simp only [Act.put, aq, ah, au]
     refine af.take (i := 5) (v := ?rM) rfl (by kernel_rfl) (fun _ _ _ h => h) (by rfl) (fun w hSw => ?gQ) hS ?rN
     case gQ =>
      (try dsimp only at hSw)
      go_simp
      try with_reducible rfl
     try simp only [Act.put, aq, ah, au]
     refine af.take (i := 6) (v := ?zo) rfl (by kernel_rfl) (fun _ _ _ h => h) (by rfl) (fun w hSw => ?lX) hS ?zq
     case lX =>
      (try dsimp only at hSw)
      go_simp
      try with_reducible rfl
     try simp only [Act.put, aq, ah, au]
     refine af.take (i := 7) (v := ?Co) rfl (by kernel_rfl) (fun _ _ _ h => h) (by rfl) (fun w hSw => ?oA) hS ?Cq
     case oA =>
      (try dsimp only at hSw)
      go_simp
      try with_reducible rfl
     try simp only [Act.put, aq, ah, au]
     refine af.step (i := 8) rfl (by kernel_rfl) (fun K' hK => ?_)
     go_simp
     refine HST.out.mono ?_
     rintro e w2 ⟨rfl, hu⟩
     refine hK.out _ _ (aJ (by kernel_rfl)) (fun hS => ?_)
     try simp only [aq, ah, au]
     refine af.step (i := 9) rfl (by kernel_rfl) (fun K' hK => ?_)
     go_simp
     refine hK.out _ _ (aJ (by kernel_rfl)) (fun hS => ?_)
     refine af.done (by kernel_rfl) ?_
     have HI2 : Hid (Up w w2 ∧ ∀ j, j < k + 1 → gt a j = gt b j) := ⟨HIK2.out.1.trans hu, HIK2.out.2⟩
     clear hu
     go_wp2_with fail
     go_roundw
     case rel => exact ⟨k + 1, by omega, by go_num, HI2.out⟩
     case measure => simp [intOf]; omega
    ·have d9 : decide (x = y) = false := decide_eq_false e
     rw [d9] at HST
     have HF := aa (CT.out e)
     clear e d9 CT EP
     go_wp2_with fail
     refine cU (by kernel_rfl) 9 (fun w' => w'.cell? ⟨ab, ao + k * 2, none⟩ = some (.slice pp x.ps.length pc) ∧ w'.cell? ⟨ab, ao + k * 2 + 1, none⟩ = some (.slice np x.ns.length nc) ∧ w'.cell? ⟨bb, bo + k * 2, none⟩ = some (.slice nA y.ps.length nB) ∧ w'.cell? ⟨bb, bo + k * 2 + 1, none⟩ = some (.slice nC y.ns.length nD)) ⟨c0, c1, d0, d1⟩ (fun hS => ?_)
     simp only [List.size_toArray, List.length_cons, List.length_nil, Nat.reduceAdd, Array.replicate_succ, Array.replicate_zero, List.push_toArray, List.nil_append, List.cons_append]
     refine af.take (i := 0) (v := ?U0) rfl (by kernel_rfl) (fun _ _ _ h => h) (by rfl) (fun w hSw => ?CB) hS ?U1
     case CB =>
      (try dsimp only at hSw)
      go_simp
      try with_reducible rfl
     try simp only [Act.put, aq, ah, au]
     refine af.take (i := 1) (v := ?U2) rfl (by kernel_rfl) (fun _ _ _ h => h) (by rfl) (fun w hSw => ?CC) hS ?U3
     case CC =>
      (try dsimp only at hSw)
      go_simp
      try with_reducible rfl
     try simp only [Act.put, aq, ah, au]
     refine af.take (i := 2) (v := ?U4) rfl (by kernel_rfl) (fun _ _ _ h => h) (by rfl) (fun w hSw => ?CD) hS ?U5
     case CD =>
      (try dsimp only at hSw)
      go_simp
      try with_reducible rfl
     try simp only [Act.put, aq, ah, au]
     refine af.take (i := 3) (v := ?U6) rfl (by kernel_rfl) (fun _ _ _ h => h) (by rfl) (fun w hSw => ?CE) hS ?U7
     case CE =>
      (try dsimp only at hSw)
      go_simp
      try with_reducible rfl
     try simp only [Act.put, aq, ah, au]
     refine af.take (i := 4) (v := ?U8) rfl (by kernel_rfl) (fun _ _ _ h => h) (by rfl) (fun w hSw => ?CF) hS ?U9
     case CF =>
      (try dsimp only at hSw)
      go_simp
      try with_reducible rfl
     try simp only [Act.put, aq, ah, au]
     refine af.take (i := 5) (v := ?Va) rfl (by kernel_rfl) (fun _ _ _ h => h) (by rfl) (fun w hSw => ?CG) hS ?Vb
     case CG =>
      (try dsimp only at hSw)
      go_simp
      try with_reducible rfl
     try simp only [Act.put, aq, ah, au]
     refine af.take (i := 6) (v := ?gv6k2) rfl (by kernel_rfl) (fun _ _ _ h => h) (by rfl) (fun w hSw => ?Np) hS ?gr6k2
     case Np =>
      (try dsimp only at hSw)
      go_simp
      try with_reducible rfl
     try simp only [Act.put, aq, ah, au]
     refine af.take (i := 7) (v := ?gv7k2) rfl (by kernel_rfl) (fun _ _ _ h => h) (by rfl) (fun w hSw => ?gy7k2) hS ?gr7k2
     case gy7k2 =>
      (try dsimp only at hSw)
      go_simp
      try with_reducible rfl
     try simp only [Act.put, aq, ah, au]
     refine af.step (i := 8) rfl (by kernel_rfl) (fun K' hK => ?_)
     go_simp
     refine HST.out.mono ?_
     rintro e w2 ⟨rfl, hu⟩
     refine hK.out _ _ (aJ (by kernel_rfl)) (fun hS => ?_)
     try simp only [aq, ah, au]
     refine af.step (i := 9) rfl (by kernel_rfl) (fun K' hK => ?_)
     go_simp
     refine hK.out _ _ (aJ (by kernel_rfl)) (fun hS => ?_)
     refine af.done (by kernel_rfl) ?_
     have bH := aa (xT.out.trans hu)
     clear hu
     go_wp2_with fail
     go_ret
     exact ⟨bw HF.out.symm, bH.out⟩
   ·obtain rfl : k = a.length := by omega
    have HF : Hid (decide (a = b) = true) := decide_eq_true (HS.out.2 hI.out.2)
    go_wp2_with fail
    go_ret
    exact ⟨bw HF.out.symm, hI.out.1⟩
 ·have HF : Hid (decide (a = b) = false) := decide_eq_false fun e => hl (by rw [e])
  have gK : ((a.length : Int) != (b.length : Int)) = true := by simp; omega
  clear hl
  go_enter Tryz.func34, Tryz.ntmps34
  go_wp2_with fail
  go_ret
  exact ⟨bw HF.out.symm, Up.refl _⟩
end
section
open Go.RowKit Go.Deep
theorem NY (xs : List Int) : (Lib.compact (jw xs)).length ≤ xs.length := by
 rw [Ey]
 exact (sg xs).length_le_of_subset fun x hx => uM.1 hx
def Kf (w : World) (states : List (List Int)) (e : Ending) (w' : World) : Prop := e = .returned (.tuple #[.int .i64 (NL states), .int .i64 (NK states)]) ∧ Up w w'
set_option maxHeartbeats 4000000 in
theorem Q5 (S : Nat → Prop) (w : World) (vs : Value) (states : List (List Int)) (hS : bh S w vs states) (sr : states.length ≤ 1000000) (hr : ∀ k, (gl states k).length ≤ 1000000) :
  Calls Tryz.prog 20 #[vs] w (Kf w states) := by
 have vQ := aa (Ep S w vs states hS sr hr)
 obtain ⟨sp, sc, rfl, -, -⟩ := fL hS
 have HS := aa hS
 have HE : Hid (NK states = if cB states = 0 then 0 else 1) := rfl
 have HR : Hid (NL states = if cB states = 0 then JR states else 0) := rfl
 have HAK : Hid (cB states = 0 → 0 < states.length ∧ states.length ≤ 32 ∧ (gl states 0).length ≤ 4096 ∧ ∀ k, k < states.length → (gl states k).length = (gl states 0).length) := fun h => by
  obtain ⟨a1, a2⟩ := CX h
  obtain ⟨a3, a4⟩ := J8 h
  exact ⟨a1, a3, a4, fun k hk => (a2 k hk).1⟩
 clear hS sr hr
 go_enter Tryz.func20, Tryz.ntmps20
 go_wp2_with fail
 refine vQ.out.mono ?_
 rintro e w1 ⟨rfl, hq⟩
 have bT : Hid (Up w w1) := hq ▸ Up.refl _
 by_cases c1 : cB states = 0
 ·obtain ⟨a0, a1, a2, a3⟩ := HAK.out c1
  have HA := aa (And.intro a0 (And.intro a1 (And.intro a2 a3)))
  have eD : Hid (∀ W, Up w W → Kf w states (.returned (.tuple #[.int .i64 (JR states), .int .i64 0])) W) := fun W hW => ⟨by rw [HE.out, HR.out, if_pos c1, if_pos c1], hW⟩
  have lg := aa (bh.keep HS.out (bT.out.kept S))
  obtain ⟨sb, so, s0, s1, rfl, hc0, kR⟩ := jd lg.out a0
  rw [Nat.add_zero] at hc0
  have i1 : (0 : Int) < (states.length : Int) := by omega
  rw [c1]
  clear vQ HE HR HAK hq c1 a0 a1 a2 a3 kR
  have Qt : Hid (∀ n, 0 ≤ b7 (oH states) n ∧ b7 (oH states) n ≤ 100000 * n) := fun n => zH fun p _ => by have h1 := Mh states p; have := HA.out.2.1; omega
  have iq : Hid (∀ n, b7 (oH states) (n + 1) = b7 (oH states) n + oH states n) := fun n => rfl
  have jq : Hid (JR states = b7 (oH states) (gl states 0).length) := rfl
  go_wp2_with fail
  go_loopw [4, 5, 6, 8, 16, 21] (fun s _ _ _ i _ wr => ∃ n : Nat, n ≤ (gl states 0).length ∧ i = .int .i64 n ∧ s = .int .i64 (b7 (oH states) n) ∧ Hid (Up w1 wr)) (fun _ _ _ _ i _ _ => (gl states 0).length - (intOf i).toNat)
  case atStart => exact ⟨0, Nat.zero_le _, rfl, rfl, Up.refl _⟩
  case round =>
   obtain ⟨n, hn, rfl, rfl, hU⟩ := hrel
   obtain ⟨wo, rfl⟩ : ∃ wo : World, wo = wr := ⟨_, rfl⟩
   by_cases hlt : n < (gl states 0).length
   ·have i2 : (n : Int) < ((gl states 0).length : Int) := by omega
    have i3 : (n : Int) < 4096 := by have := HA.out.2.2.1; omega
    have i4 : (0 : Int) ≤ (n : Int) := by omega
    have aY := aa hlt
    have VK := aa (And.intro (Qt.out n) (Mh states n))
    have xT := aa hU.out
    generalize sr : b7 (oH states) n = fn at *
    have BO := aa sr
    clear hlt hU sr
    go_wp2_with fail
    go_loopw [6, 8, 21] (fun l _ k wr => ∃ j : Nat, j ≤ states.length ∧ k = .int .i64 j ∧ Hid (aA wo.heap.size 3 wr l ((dx ((cR states n).take j)).map (Value.int .i64))) ∧ Hid (Up wo wr)) (fun _ _ k _ => states.length - (intOf k).toNat)
    case atStart => exact ⟨0, Nat.zero_le _, rfl, aA.nil _ _ _, Up.refl _⟩
    case round =>
     obtain ⟨j, hj, rfl, hA, fV⟩ := hrel
     obtain ⟨wi, rfl⟩ : ∃ wi : World, wi = wr := ⟨_, rfl⟩
     by_cases hlj : j < states.length
     ·obtain ⟨rb, ro, r0, r1, er, hcr, hir⟩ := jd (bh.keep lg.out ((xT.out.trans fV.out).kept S)) hlj
      injection er with er
      injection er with er1 er2
      subst er1; subst er2
      rw [HA.out.2.2.2 j hlj] at hcr
      obtain ⟨yb, yo, rfl, hcy⟩ := eE hir (k := n) (by rw [HA.out.2.2.2 j hlj]; exact aY.out)
      have jP := aa (Kw (st := cR states n) (k := j) (by rw [xm]; exact hlj))
      rw [JM _ _ hlj] at jP
      have dY := O6 (cR states n) j
      have hsz := fV.out.size
      have CZ := aa hlj
      have k1 : (0 : Int) ≤ (j : Int) := by omega
      have k2 : (j : Int) < (states.length : Int) := by omega
      have k3 : (j : Int) < 64 := by have := HA.out.2.1; omega
      generalize gi (gl states j) n = y at *
      clear hir hlj
      by_cases h0 : 0 ≤ y
      ·have eT : Hid (((dx ((cR states n).take j)).map (Value.int .i64)).length = (dx ((cR states n).take j)).length) := by unfold Hid; rw [List.length_map]
       have J4 : Hid (dx ((cR states n).take (j + 1)) = dx ((cR states n).take j) ++ [y]) := by unfold Hid; rw [jP.out, if_pos h0]
       have d0 : decide (0 ≤ y) = true := by simp [h0]
       generalize hm : (dx ((cR states n).take j)).length = m at *
       go_wp2_with (at_builtin; refine uC wi rfl _ _ 26 rfl wo.heap.size 3 _ 8 Tryz.underlying26 Tryz.lK rfl (by decide) hA.out rfl _ rfl rfl m eT.out (by omega) hsz ?_; intro g cap w8 hown1 hg1 og)
       have Zw : Hid (aA wo.heap.size 3 w8 (.slice (some ⟨g, 0, none⟩) (m + 1) cap) ((dx ((cR states n).take (j + 1))).map (Value.int .i64))) := by unfold Hid; rw [J4.out, List.map_append]; exact hown1
       have oQ : Hid (Up wo w8) := Below.trans fV.out og
       clear hown1 hg1 og
       go_roundw
       case rel => exact ⟨j + 1, CZ.out, by go_num, Zw, oQ⟩
       case measure => have := CZ.out; simp [intOf]; omega
      ·have d0 : decide (0 ≤ y) = false := by simp; omega
       have J4 : Hid (dx ((cR states n).take (j + 1)) = dx ((cR states n).take j)) := by unfold Hid; rw [jP.out, if_neg h0, List.append_nil]
       clear h0
       go_wp2_with fail
       go_roundw
       case rel => exact ⟨j + 1, CZ.out, by go_num, by rw [J4.out]; exact hA, fV⟩
       case measure => have := CZ.out; simp [intOf]; omega
     ·obtain rfl : j = states.length := by omega
      have htk : (cR states n).take states.length = cR states n := by rw [← xm states n, List.take_length]
      rw [htk] at hA
      obtain ⟨kp, kc, rfl, _⟩ := hA.out.form (n := (dx (cR states n)).length) (by rw [List.length_map])
      have dY : (dx (cR states n)).length ≤ states.length := by rw [← xm states n]; exact List.length_filter_le _ _
      have iT : Hid ((dx (cR states n)).length ≤ 32) := Nat.le_trans dY HA.out.2.1
      have q8 := aa (Yj wo wi _ (dx (cR states n)) fV.out hA.out (by have := iT.out; omega))
      have AB : Hid (oH states n = if (dd (dx (cR states n))).length = 0 then 0 else ((dd (dx (cR states n))).length : Int) - 1) := rfl
      rw [← Ey] at AB
      clear htk hA fV dY hj
      go_wp2_with fail
      refine q8.out.mono ?_
      rintro e w7 ⟨rfl, Dd, ho7⟩
      have zV := aa (O4 wo w7 _ (jw (dx (cR states n))) Dd ho7 (by rw [yq]; have := iT.out; omega))
      have Mn : Hid ((Lib.compact (jw (dx (cR states n)))).length ≤ 32) := Nat.le_trans (NY _) iT.out
      clear Dd ho7 q8
      go_wp2_with fail
      refine zV.out.mono ?_
      rintro e w8 ⟨⟨p8, c8, rfl⟩, qz⟩
      have oQ := aa (xT.out.trans qz)
      have kC := aa (iq.out n)
      rw [BO.out, AB.out] at kC
      have PE := VK.out
      have Iz := Mn.out
      clear qz zV AB Mn
      generalize oH states n = bk at *
      generalize (Lib.compact (jw (dx (cR states n)))).length = D at *
      have i6 : fn ≤ 409600000 ∧ 0 ≤ fn := by constructor <;> omega
      obtain ⟨i7, i8⟩ := i6
      clear PE
      go_wp2_with fail
      go_roundw
      case rel => exact ⟨n + 1, aY.out, by go_num, by rw [kC.out]; congr 1; omega, oQ.out⟩
      case measure => have := aY.out; simp [intOf]; omega
   ·obtain rfl : n = (gl states 0).length := by omega
    have oT := aa (eD.out wo (bT.out.trans hU.out))
    rw [jq.out] at oT
    clear hlt
    go_wp2_with fail
    go_ret2
    exact oT.out
 ·have eD : Hid (Kf w states (.returned (.tuple #[.int .i64 0, .int .i64 1])) w1) := ⟨by rw [HE.out, HR.out, if_neg c1, if_neg c1], bT.out⟩
  generalize cB states = a at *
  clear hq vQ
  go_wp2_with fail
  go_ret2
  exact eD.out
end
end Go.Proofs.YteegefnjnikngaaGreat
