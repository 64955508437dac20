/- optimaltree.Best. Layer 34's law: named, fine. The example of layer 34: awake. The walk .. -/
import Derived.Test.YteegefnjnikngaaGreatQ1
import Derived.Test.YteegefnjnikngaaGreatQ46
import Derived.Test.YteegefnjnikngaaGreatQ23
import Derived.Test.YteegefnjnikngaaGreatQ45
import Derived.Test.YteegefnjnikngaaGreatQ47
import Derived.Test.YteegefnjnikngaaGreatQ18
import Derived.Test.YteegefnjnikngaaGreatQ40
import Derived.Test.YteegefnjnikngaaGreatQ44
import Derived.Test.YteegefnjnikngaaGreatQ9
import Derived.Deep.RegionHeld3
set_option maxRecDepth 100000
namespace Go.Proofs.YteegefnjnikngaaGreat
section
open Go.RowKit Go.Deep
def De (names : List ByteArray) (states : List (List Int)) : Int := if dQ names states = 0 then kE names states else 0
def Df (names : List ByteArray) (states : List (List Int)) : List ax := if dQ names states = 0 then xk names states else []
def BD (w : World) (names : List ByteArray) (states : List (List Int)) (e : Ending) (w' : World) : Prop :=
 Up w w' ∧ ∃ v, e = .returned (.tuple #[v, .int .i64 (De names states), .int .i64 (dQ names states)]) ∧ dz Any w' v (Df names states)
def BeI (w : World) (names : List ByteArray) (states : List (List Int)) (n : Nat) (wr : World) : Prop := Up w wr ∧ SMap wr w.heap.size (scK names states n)
def BeJ (w : World) (names : List ByteArray) (states : List (List Int)) (n : Nat) (out : Value) (wr : World) : Prop := Up w wr ∧ ∃ es : List mz, iE w.heap.size wr out es ∧ es.map (·.2) = qV names states n
theorem Xk {names : List ByteArray} (hn : fT names) {k : Nat} (h : k < (bD names).length) : az (gt (allT names) k) = 0 ∧ lG (gt (allT names) k) names = true ∧ ∀ i, (gs (gt (allT names) k).ns i).size ≤ 70000 := by
 have h2 : k < (allT names).length := by unfold allT; rw [List.length_map]; exact h
 have ho := (DW hn (JN h2)).1
 refine ⟨ho.te, (CW hn ho.te).2 ho, ?_⟩
 rw [D4 h]
 exact mL (fJ hn (Ki h)).1.good
set_option maxHeartbeats 4000000 in
theorem T3 (S : Nat → Prop) (w : World) (v vs : Value) (names : List ByteArray) (states : List (List Int)) (h : av S w v names) (hn : names.length ≤ 1000000) (hz : ∀ k, (gs names k).size ≤ 70000) (hS : bh S w vs states) (sr : states.length ≤ 1000000) (hr : ∀ k, (gl states k).length ≤ 1000000) (h5 : names.length ≤ 5 ∨ 7 < names.length) :
  Calls Tryz.prog 19 #[v, vs] w (BD w names states) := by
 have fA := aa (FE S w v vs names states h hn hz hS sr hr)
 obtain ⟨mp, mc, rfl, -, -⟩ := aD.open h
 have h : av S w (.slice mp names.length mc) names := h
 obtain ⟨sp, sc, rfl, -, -⟩ := fL hS
 have HN := aa h
 have HS := aa hS
 have zV : Hid (dQ names states = 0 → tC names states) := Dc h5
 clear h hS hz hr h5
 go_enter Tryz.func19, Tryz.ntmps19
 go_wp2_with fail
 refine fA.out.mono ?_
 rintro e w1 ⟨rfl, aX⟩
 by_cases c1 : dQ names states = 0
 ·have hc := zV.out c1
  have vS := aa (FJ S w1 _ names hc.nm (av.keep HN.out (aX.kept S)))
  have HC := aa hc
  have eD : Hid (∀ W v, Up w W → dz Any W v (xk names states) → BD w names states (.returned (.tuple #[v, .int .i64 (kE names states), .int .i64 0])) W) := fun W v hu ht => ⟨hu, v, by unfold De; rw [c1]; rfl, by unfold Df; rw [if_pos c1]; exact ht⟩
  have hl0 : (allT names).length = (bD names).length := by unfold allT; rw [List.length_map]
  have gK : (bD names).length ≤ 15 := by rw [rS hc.nm]; split <;> (try split) <;> (try split) <;> omega
  have HL := aa (And.intro hl0 gK)
  have bT := aa aX
  rw [c1]
  clear c1 hc aX hl0 gK fA zV
  go_wp2_with fail
  refine vS.out.mono ?_
  rintro e w2 ⟨aK, ev, rfl, Ke⟩
  obtain ⟨eg, ec, rfl⟩ := FN Ke
  have bH := aa (bT.out.trans aK)
  have y7 := aa Ke
  have B3 := aa (av.keep HN.out (bH.out.kept S))
  have kB := aa (bh.keep HS.out (bH.out.kept S))
  have y8 : Hid (BeI w2 names states 0 (w2.alloc (.map #[] 0))) := ⟨Up.alloc _ _, SMap.made _⟩
  have hmm := fun W => run_makeMap (P := Tryz.prog) 97 W
  clear aK Ke vS bT
  go_wp2_with fail
  clear hmm
  go_loopw [4, 5, 6, 11, 13, 14, 15, 36] (fun _ _ _ s _ _ _ i wr => ∃ n : Nat, n ≤ (bD names).length ∧ i = .int .i64 n ∧ s = .int .i64 (tI names states n) ∧ Hid (BeI w2 names states n wr)) (fun _ _ _ _ _ _ _ i _ => (bD names).length - (intOf i).toNat)
  case atStart => exact ⟨0, Nat.zero_le _, rfl, rfl, y8.out⟩
  case round =>
   obtain ⟨n, hn, rfl, rfl, hI⟩ := hrel
   obtain ⟨wo, rfl⟩ : ∃ wo : World, wo = wr := ⟨_, rfl⟩
   obtain ⟨gH, hM⟩ := hI.out
   by_cases hlt : n < (bD names).length
   ·obtain ⟨pp, pc, np, nc, c0, c1, c2, hT⟩ := BA y7.out hlt
    replace c0 := gH.cell c0
    replace c1 := gH.cell c1
    replace c2 : wo.cell? ⟨eg, n * 3 + 2, none⟩ = some (.string (aW (gR names n))) := gH.cell c2
    obtain ⟨te, fi, tz⟩ := Xk HC.out.nm hlt
    have hbd := Re HC.out (n := n) (by rw [HL.out.1]; exact hlt)
    have hmb := Rf HC.out (n := n) (by rw [HL.out.1]; exact hn)
    have Mq := aa (TX names states n)
    have hsc : qp (gt (allT names) n) names states = .tuple #[.int .i64 (qQ names states n), .int .i64 0] := by unfold qp qQ; rw [fi]; rfl
    replace hT : aC Any wo (.agg #[.slice pp (gt (allT names) n).ps.length pc, .slice np (gt (allT names) n).ns.length nc]) (gt (allT names) n) := aC.keep hT (gH.kept _)
    replace c0 : wo.cell? ⟨eg, n * 3, none⟩ = some (.slice pp (gt (allT names) n).ps.length pc) := c0
    replace c1 : wo.cell? ⟨eg, n * 3 + 1, none⟩ = some (.slice np (gt (allT names) n).ns.length nc) := c1
    have vo : Hid (∀ W, Up wo W → Calls Tryz.prog 74 #[.agg #[.slice pp (gt (allT names) n).ps.length pc, .slice np (gt (allT names) n).ns.length nc], .slice mp names.length mc, .slice sp states.length sc] W fun e w' => e = .returned (.tuple #[.int .i64 (qQ names states n), .int .i64 0]) ∧ Up W w') := fun W hW => by
     rw [← hsc]
     exact FL Any W _ _ _ _ names states (hT.keep (hW.kept _)) te tz ((av.keep B3.out ((gH.trans hW).kept S)).sub fun _ _ _ => trivial) ((bh.keep kB.out ((gH.trans hW).kept S)).sub fun _ _ _ => trivial) HC.out
    have HMS : Hid (scK names states (n + 1) = sL (scK names states n) (aW (gR names n)) (.int .i64 (qQ names states n))) := rfl
    have HUQ := aa (Kj names states n)
    have HMo := aa hM
    have xT := aa gH
    have aY := aa hlt
    have i4 : (n : Int) < ((bD names).length : Int) := by omega
    have i5 : (n : Int) < 16 := by have := HL.out.2; omega
    clear hI gH hM te fi tz hsc hlt
    generalize gt (allT names) n = q at *
    generalize aW (gR names n) = key at *
    have dX : Hid (Up wo (wo.alloc (.cells #[.slice pp q.ps.length pc, .slice np q.ns.length nc, .string key] 99)) ∧ (wo.alloc (.cells #[.slice pp q.ps.length pc, .slice np q.ns.length nc, .string key] 99)).cell? ⟨wo.heap.size, 2, none⟩ = some (.string key) ∧ (wo.alloc (.cells #[.slice pp q.ps.length pc, .slice np q.ns.length nc, .string key] 99)).heap[w2.heap.size]? = wo.heap[w2.heap.size]?) := by
     refine ⟨Up.alloc _ _, aT wo _ _ 2, Below.block (Up.alloc wo _) _ HMo.out.lt⟩
    have HSC0 := aa (vo.out _ dX.out.1)
    generalize qQ names states n = f at *
    generalize tI names states n = m at *
    go_wp2_with fail
    generalize wo.alloc (.cells #[.slice pp q.ps.length pc, .slice np q.ns.length nc, .string key] 99) = w7 at *
    refine HSC0.out.mono ?_
    rintro e w9 ⟨rfl, um⟩
    obtain ⟨Dd, hk7, hm7⟩ := dX.out
    have hk9 := um.cell hk7
    have hM9 : SMap w9 w2.heap.size (scK names states n) := HMo.out.same ((Below.block um _ (by have := Dd.size; have := HMo.out.lt; omega)).trans hm7)
    have Mr := (xT.out.trans Dd).trans um
    obtain ⟨w5, hrun, hm5, hs5, Ak, ht5, hou5, l5⟩ := Sd (P := Tryz.prog) Tryz.underlying97 Tryz.underlying9 hM9 HUQ.out key (.int .i64 f)
    have HI5 : Hid (BeI w2 names states (n + 1) w5) := ⟨⟨Ak.trans Mr.os, ht5.trans Mr.tape, hou5.trans Mr.output, by rw [hs5]; exact Mr.size, fun b hb => (l5 b (by omega)).trans (Mr.block b hb)⟩, by rw [HMS.out]; exact hm5⟩
    clear hm5 hs5 Ak ht5 hou5 l5 hM9 Mr um Dd hk7 hm7 dX vo HSC0 hT c0 c1 c2
    by_cases e1 : m < 0
    ·have HE : Hid (tI names states (n + 1) = f) := by unfold Hid; rw [Mq.out, if_pos (.inl e1)]
     have d1 : decide (m < 0) = true := by simp [e1]
     clear Mq e1
     go_wp2_with fail
     go_roundw
     case rel => exact ⟨n + 1, aY.out, by go_num, by rw [HE.out], HI5.out⟩
     case measure => have := aY.out; simp [intOf]; omega
    ·have d1 : decide (m < 0) = false := by simp; omega
     by_cases e2 : f < m
     ·have HE : Hid (tI names states (n + 1) = f) := by unfold Hid; rw [Mq.out, if_pos (.inr e2)]
      have d2 : decide (f < m) = true := by simp [e2]
      clear Mq e1 e2
      go_wp2_with fail
      go_roundw
      case rel => exact ⟨n + 1, aY.out, by go_num, by rw [HE.out], HI5.out⟩
      case measure => have := aY.out; simp [intOf]; omega
     ·have HE : Hid (tI names states (n + 1) = m) := by unfold Hid; rw [Mq.out, if_neg (by omega)]
      have d2 : decide (f < m) = false := by simp; omega
      clear Mq e1 e2
      go_wp2_with fail
      go_roundw
      case rel => exact ⟨n + 1, aY.out, by go_num, by rw [HE.out], HI5.out⟩
      case measure => have := aY.out; simp [intOf]; omega
   ·obtain rfl : n = (bD names).length := by omega
    have HMB := aa hM
    have P3 := aa gH
    have HEB := aa (y7.out.keep gH)
    have IK : Hid (BeJ wo names states 0 (.slice none 0 0) wo) := ⟨Up.refl _, [], iE.nil _ _, by simp [qV]⟩
    have hlst : tI names states (bD names).length = kE names states := by rw [← HL.out.1]; exact Xa names states
    rw [hlst]
    clear hI gH hM hlt hlst
    have HFX2 := aa (fun W v (hu : Up wo W) ht => eD.out W v ((bH.out.trans P3.out).trans hu) ht)
    go_wp2_with fail
    go_loopw [16, 18, 66] (fun out _ i wr => ∃ k : Nat, k ≤ (bD names).length ∧ i = .int .i64 k ∧ Hid (BeJ wo names states k out wr)) (fun _ _ i _ => (bD names).length - (intOf i).toNat)
    case atStart => exact ⟨0, Nat.zero_le _, rfl, IK.out⟩
    case round =>
     obtain ⟨k, hk, rfl, hI⟩ := hrel
     obtain ⟨wi, rfl⟩ : ∃ wi : World, wi = wr := ⟨_, rfl⟩
     obtain ⟨tJ, es, hes, hem⟩ := hI.out
     by_cases hlt : k < (bD names).length
     ·obtain ⟨pp, pc, np, nc, c0, c1, c2, hT⟩ := BA HEB.out hlt
      replace c0 := tJ.cell c0
      replace c1 := tJ.cell c1
      replace c2 : wi.cell? ⟨eg, k * 3 + 2, none⟩ = some (.string (aW (gR names k))) := tJ.cell c2
      have hlt2 : k < (allT names).length := by rw [HL.out.1]; exact hlt
      have jq := aa (Rc states hlt2)
      have VN := Kk HC.out.nm states hlt (n := (bD names).length) (Nat.le_refl _) hlt
      replace hT : aC (fun b => b < wo.heap.size) wi (.agg #[.slice pp (gt (allT names) k).ps.length pc, .slice np (gt (allT names) k).ns.length nc]) (gt (allT names) k) := aC.keep (hT.sub fun b _ hb => hb) (tJ.kept _)
      replace c0 : wi.cell? ⟨eg, k * 3, none⟩ = some (.slice pp (gt (allT names) k).ps.length pc) := c0
      replace c1 : wi.cell? ⟨eg, k * 3 + 1, none⟩ = some (.slice np (gt (allT names) k).ns.length nc) := c1
      generalize gt (allT names) k = q at *
      generalize aW (gR names k) = key at *
      have bq := Up.alloc wi (.cells #[.slice pp q.ps.length pc, .slice np q.ns.length nc, .string key] 99)
      have hM7 : SMap (wi.alloc (.cells #[.slice pp q.ps.length pc, .slice np q.ns.length nc, .string key] 99)) w2.heap.size (scK names states (bD names).length) := HMB.out.same (Below.block (tJ.trans bq) _ HMB.out.lt)
      have hlk := Ph (P := Tryz.prog) Tryz.underlying97 Tryz.underlying9 (SI _) hM7 key
      rw [VN] at hlk
      simp only [Option.getD_some] at hlk
      obtain ⟨op, oc, rfl⟩ := hes.form
      obtain ⟨m, hm⟩ : ∃ m, es.length = m := ⟨_, rfl⟩
      have hmk : m ≤ k := by
       rw [← hm]
       have := congrArg List.length hem
       rw [List.length_map] at this
       rw [this]
       unfold qV
       exact Nat.le_trans (List.length_filter_le _ _) (by rw [List.length_take]; omega)
      rw [hm]
      have uq : Hid (iE wo.heap.size (wi.alloc (.cells #[.slice pp q.ps.length pc, .slice np q.ns.length nc, .string key] 99)) (.slice op m oc) es) := by have h := hes.up bq; rw [hm] at h; exact h
      have AA : Hid (aC (fun b => some b ≠ (Value.slice op m oc).ownBlock) (wi.alloc (.cells #[.slice pp q.ps.length pc, .slice np q.ns.length nc, .string key] 99)) (.agg #[.slice pp q.ps.length pc, .slice np q.ns.length nc]) q) := by
       have h2 := hes.1
       rw [hm] at h2
       exact (hT.keep (bq.kept _)).sub fun b hb _ e => by have := (World.ownsRow.lt h2 b e.symm).1; omega
      have HUI := aa (tJ.trans bq)
      have QZ := aa hem
      have LC := aa hm
      have aY := aa hlt
      have i4 : (k : Int) < ((bD names).length : Int) := by omega
      have i5 : (k : Int) < 16 := by have := HL.out.2; omega
      have X5 : Hid (m ≤ 1000000) := by have := HL.out.2; unfold Hid; omega
      clear hI tJ hes hem hlt hlt2 hT bq hm VN hM7 hmk
      generalize qQ names states k = f at *
      generalize kE names states = le at *
      by_cases e1 : f = le
      ·have d1 : (f == le) = true := by simp [e1]
       have FP : Hid (qV names states (k + 1) = qV names states k ++ [q]) := by unfold Hid; rw [jq.out, if_pos e1]
       subst e1
       go_wp2_with (at_builtin; refine tG _ rfl _ _ 33 rfl wo.heap.size _ 48 Tryz.underlying33 Tryz.infoTree rfl (by decide) uq.out rfl ((.slice pp q.ps.length pc, .slice np q.ns.length nc), q) (by rw [World.size_alloc]; rfl) AA.out m LC.out X5.out HUI.out.size ?_; intro g8 iz w8 cA dw tE; have J6 := aa cA; have oQ := aa tE; clear cA dw tE)
       go_roundw
       case rel => exact ⟨k + 1, aY.out, by go_num, Below.trans (show Below wo.heap.size wo _ from HUI.out) oQ.out, _, J6.out, by rw [FP.out, List.map_append, QZ.out]; rfl⟩
       case measure => have := aY.out; simp [intOf]; omega
      ·have d1 : (f == le) = false := by simp [e1]
       have FP : Hid (qV names states (k + 1) = qV names states k) := by unfold Hid; rw [jq.out, if_neg e1, List.append_nil]
       clear e1
       go_wp2_with fail
       go_roundw
       case rel => exact ⟨k + 1, aY.out, by go_num, HUI.out, _, uq.out, by rw [FP.out, QZ.out]⟩
       case measure => have := aY.out; simp [intOf]; omega
     ·obtain rfl : k = (bD names).length := by omega
      have tF : es.map (·.2) = xk names states := by rw [hem, ← HL.out.1, TW]
      obtain ⟨op, oc, rfl⟩ := hes.form
      have oT := aa (HFX2.out wi _ tJ (tF ▸ hes.trees))
      clear hI tJ hes hem tF hlt
      go_wp2_with fail
      exact ⟨rfl, .tuple #[.slice op es.length oc, .int .i64 (kE names states), .int .i64 0], by simp [results, Tryz.results19, go_sem], oT.out⟩
 ·have eD : Hid (BD w names states (.returned (.tuple #[.slice none 0 0, .int .i64 0, .int .i64 (dQ names states)])) w1) := by
   refine ⟨aX, .slice none 0 0, ?_, ?_⟩
   ·unfold De; rw [if_neg c1]
   ·unfold Df; rw [if_neg c1]; exact dz.nil _ _
  generalize dQ names states = a at *
  clear aX fA
  go_wp2_with fail
  exact ⟨rfl, .tuple #[.slice none 0 0, .int .i64 0, .int .i64 a], by simp [results, Tryz.results19, go_sem], eD.out⟩
end
section
open Go.RowKit Go.Deep
def uJ (names : List ByteArray) : Bool := !iD names [] && decide (names.length ≤ 5) && decide (bZ names = 0)
def jM (names : List ByteArray) (states : List (List Int)) : Bool := uJ names && !iD names states && decide (cB states = 0) && decide (states.length = names.length) && decide ((gl states 0).length ≤ 6)
theorem nmd_ok {names : List ByteArray} (h : uJ names = true) : fT names := by
 unfold uJ at h
 rw [Bool.and_eq_true, Bool.and_eq_true, decide_eq_true_iff, decide_eq_true_iff] at h
 exact (ng h.1.2).1 h.2
structure Rj (names : List ByteArray) (states : List (List Int)) : Prop where
 cs : tC names states
 wd : (gl states 0).length ≤ 6
theorem Rk {names : List ByteArray} {states : List (List Int)} (h : jM names states = true) : Rj names states := by
 unfold jM at h
 simp only [Bool.and_eq_true, decide_eq_true_eq] at h
 obtain ⟨⟨⟨⟨h1, _⟩, h3⟩, h4⟩, h5⟩ := h
 exact ⟨⟨nmd_ok h1, h3, h4⟩, h5⟩
set_option maxHeartbeats 2000000 in
theorem Rl (S : Nat → Prop) (w : World) (v : Value) (names : List ByteArray) (h : av S w v names) (hn : names.length ≤ 9223372036854775807) (hz : ∀ k, (gs names k).size ≤ 9223372036854775807) :
  Calls Tryz.prog 35 #[v] w fun e w' => e = .returned (.bool (uJ names)) ∧ Up w w' := by
 obtain ⟨p, cap, rfl, hcap, -⟩ := aD.open h
 have h : av S w (.slice p names.length cap) names := h
 have vw := aa (FO S Any w _ _ names [] h (RU _ _) hn hz (by decide) (fun k => by simp [gl]))
 have HB : Hid (uJ names = (!iD names [] && decide (names.length ≤ 5) && decide (bZ names = 0))) := rfl
 have HH := aa h
 have L8 : Hid (iD names [] = false → NZ names []) := D3
 clear h hz
 go_enter Tryz.func35, Tryz.ntmps35
 go_wp2_with fail
 refine vw.out.mono ?_
 rintro e w1 ⟨rfl, rfl⟩
 cases hg : iD names []
 ·have HG := aa (L8.out hg)
  rw [hg] at HB
  clear hg vw L8
  by_cases h5 : names.length ≤ 5
  ·have iH := aa (TZ S w _ names HH.out (by omega) (fun k => by have := HG.out.nm k; omega) (.inl h5))
   have kC : Hid (uJ names = decide (bZ names = 0)) := by unfold Hid; rw [HB.out]; simp [h5]
   have i5 : ¬ (5 : Int) < (names.length : Int) := by omega
   have d5 : decide ((5 : Int) < (names.length : Int)) = false := by simp; omega
   clear HB
   go_wp2_with fail
   refine iH.out.mono ?_
   rintro e w2 ⟨aK, v2, rfl, -⟩
   have bH := aa aK
   clear aK iH
   generalize bZ names = c at *
   go_wp2_with fail
   go_ret
   exact ⟨bw (by rw [kC.out]; first | done | (by_cases e : c = 0 <;> simp [e])), bH.out⟩
  ·have kC : Hid (uJ names = false) := by unfold Hid; rw [HB.out]; simp [h5]
   have d5 : decide ((5 : Int) < (names.length : Int)) = true := by simp; omega
   go_wp2_with fail
   all_goals (go_ret; exact ⟨bw kC.out.symm, Up.refl _⟩)
 ·have kC : Hid (uJ names = false) := by unfold Hid; rw [HB.out, hg]; rfl
  clear hg
  go_wp2_with fail
  all_goals (go_ret; exact ⟨bw kC.out.symm, Up.refl _⟩)
set_option maxHeartbeats 2000000 in
theorem T4 (S T : Nat → Prop) (w : World) (v vs : Value) (names : List ByteArray) (states : List (List Int)) (h : av S w v names) (hS : bh T w vs states) (hn : names.length ≤ 9223372036854775807) (hz : ∀ k, (gs names k).size ≤ 9223372036854775807) (hm : states.length ≤ 9223372036854775807) (hr : ∀ k, (gl states k).length ≤ 9223372036854775807) :
  Calls Tryz.prog 45 #[v, vs] w fun e w' => e = .returned (.bool (jM names states)) ∧ Up w w' := by
 obtain ⟨p, cap, rfl, hcap, -⟩ := aD.open h
 have h : av S w (.slice p names.length cap) names := h
 obtain ⟨sp, sc, rfl, -, -⟩ := fL hS
 have iF := aa (Rl S w _ names h hn hz)
 have vw : Hid (∀ W, Up w W → Calls Tryz.prog 27 #[.slice p names.length cap, .slice sp states.length sc] W fun e w' => e = .returned (.bool (iD names states)) ∧ W = w') := fun W hW => FO S T W _ _ names states (av.keep h (hW.kept _)) (bh.keep hS (hW.kept _)) hn hz hm hr
 have fA : Hid (iD names states = false → ∀ W, Up w W → Calls Tryz.prog 66 #[.slice sp states.length sc] W fun e w' => e = .returned (.int .i64 (cB states)) ∧ QD W w') := fun hg W hW => M4 T W _ states (bh.keep hS (hW.kept _)) (by have := (D3 hg).m10; omega) (fun k => by have := (D3 hg).le10.2.1 k; omega)
 have HB : Hid (jM names states = (uJ names && !iD names states && decide (cB states = 0) && decide (states.length = names.length) && decide ((gl states 0).length ≤ 6))) := rfl
 have HS := aa hS
 have vQ : Hid (cB states = 0 → 0 < states.length) := fun h => (CX h).1
 clear h hS hz hr
 go_enter Tryz.func45, Tryz.ntmps45
 go_wp2_with fail
 refine iF.out.mono ?_
 rintro e w1 ⟨rfl, aX⟩
 have bT := aa aX
 have HGR1 := aa (vw.out w1 aX)
 have HCK1 := aa (fun hg => fA.out hg w1 aX)
 have lg := aa (bh.keep HS.out (aX.kept T))
 clear aX iF vw fA HS
 cases hb : uJ names
 ·have kC : Hid (jM names states = false) := by unfold Hid; rw [HB.out, hb]; rfl
  clear hb
  go_wp2_with fail
  all_goals (go_ret; exact ⟨bw kC.out.symm, bT.out⟩)
 ·rw [hb] at HB
  clear hb
  go_wp2_with fail
  refine HGR1.out.mono ?_
  rintro e w2 ⟨rfl, rfl⟩
  cases hg : iD names states
  ·have HCK2 := aa (HCK1.out hg)
   rw [hg] at HB
   clear hg HGR1 HCK1
   go_wp2_with fail
   refine HCK2.out.mono ?_
   rintro e w3 ⟨rfl, hq⟩
   have dS := aa (bT.out.trans hq.up)
   have EN := aa (bh.keep lg.out (hq.up.kept T))
   clear hq HCK2 lg
   by_cases ha : cB states = 0
   ·have h0 := vQ.out ha
    obtain ⟨sb, so, s0, s1, rfl, hc0, -⟩ := jd EN.out h0
    rw [Nat.add_zero] at hc0
    rw [ha] at HB ⊢
    clear ha vQ
    have i1 : (0 : Int) < (states.length : Int) := by omega
    by_cases hl : states.length = names.length
    ·have kC : Hid (jM names states = decide ((gl states 0).length ≤ 6)) := by unfold Hid; rw [HB.out]; simp [hl]
     have d1 : ((states.length : Int) == (names.length : Int)) = true := by simp [hl]
     clear HB hl
     generalize (gl states 0).length = m at *
     go_wp2_with fail
     all_goals (go_ret; exact ⟨bw (by rw [kC.out]; first | done | (simp; omega) | (simp; done)), dS.out⟩)
    ·have kC : Hid (jM names states = false) := by unfold Hid; rw [HB.out]; simp [hl]
     have d1 : ((states.length : Int) == (names.length : Int)) = false := by simp; omega
     clear HB hl
     go_wp2_with fail
     all_goals (go_ret; exact ⟨bw kC.out.symm, dS.out⟩)
   ·have kC : Hid (jM names states = false) := by unfold Hid; rw [HB.out]; simp [ha]
    generalize cB states = a at *
    have d1 : (a == 0) = false := by simp [ha]
    clear HB vQ
    go_wp2_with fail
    all_goals (go_ret; exact ⟨bw kC.out.symm, dS.out⟩)
  ·have kC : Hid (jM names states = false) := by unfold Hid; rw [HB.out, hg]; rfl
   clear hg
   go_wp2_with fail
   all_goals (go_ret; exact ⟨bw kC.out.symm, bT.out⟩)
end
section
open Go.RowKit Go.Deep
theorem Kl {w : World} {B n : Nat} {xs : List (List Int)} (hn : n = xs.length) (f : Nat → Value) (hc : ∀ k, k < n → w.cell? ⟨B, k, none⟩ = some (f k)) (hr : ∀ k, k < n → aB Any w (f k) (gl xs k)) : bh Any w (.slice (some ⟨B, 0, none⟩) n n) xs := by
 subst hn
 refine ⟨f, ⟨_, _, rfl, Nat.le_refl _, .inr ⟨_, 0, rfl, trivial, fun k hk => ?_⟩⟩, fun k hk => hr k hk⟩
 rw [Nat.zero_add]; exact hc k hk
theorem zK (w : World) (x : Int) (xs : List Int) (h : xs = [x]) : aB Any (w.alloc (.cells #[.int .i64 x] 3)) (.slice (some ⟨w.heap.size, 0, none⟩) 1 1) xs := sH w _ _ xs (by rw [h]; rfl) 1 (by rw [h]; rfl)
def zL (w : World) (a b c d : Int) : World := (((w.alloc (.cells #[.int .i64 a] 3)).alloc (.cells #[.int .i64 b] 3)).alloc (.cells #[.int .i64 c] 3)).alloc (.cells #[.int .i64 d] 3)
theorem Rm (w : World) (a b c d : Int) : bh Any ((zL w a b c d).alloc (.cells #[.slice (some ⟨w.heap.size, 0, none⟩) 1 1, .slice (some ⟨w.heap.size + 1, 0, none⟩) 1 1, .slice (some ⟨w.heap.size + 1 + 1, 0, none⟩) 1 1, .slice (some ⟨w.heap.size + 1 + 1 + 1, 0, none⟩) 1 1] 26)) (.slice (some ⟨w.heap.size + 1 + 1 + 1 + 1, 0, none⟩) 4 4) [[a], [b], [c], [d]] ∧ Up w ((zL w a b c d).alloc (.cells #[.slice (some ⟨w.heap.size, 0, none⟩) 1 1, .slice (some ⟨w.heap.size + 1, 0, none⟩) 1 1, .slice (some ⟨w.heap.size + 1 + 1, 0, none⟩) 1 1, .slice (some ⟨w.heap.size + 1 + 1 + 1, 0, none⟩) 1 1] 26)) := by
 have s0 := zK w a [a] rfl
 have s1 := zK (w.alloc (.cells #[.int .i64 a] 3)) b [b] rfl
 have s2 := zK ((w.alloc (.cells #[.int .i64 a] 3)).alloc (.cells #[.int .i64 b] 3)) c [c] rfl
 have s3 := zK (((w.alloc (.cells #[.int .i64 a] 3)).alloc (.cells #[.int .i64 b] 3)).alloc (.cells #[.int .i64 c] 3)) d [d] rfl
 simp only [World.size_alloc] at s1 s2 s3
 have hsz : (zL w a b c d).heap.size = w.heap.size + 1 + 1 + 1 + 1 := by unfold zL; simp only [World.size_alloc]
 have hL := Up.alloc (zL w a b c d) (.cells #[.slice (some ⟨w.heap.size, 0, none⟩) 1 1, .slice (some ⟨w.heap.size + 1, 0, none⟩) 1 1, .slice (some ⟨w.heap.size + 1 + 1, 0, none⟩) 1 1, .slice (some ⟨w.heap.size + 1 + 1 + 1, 0, none⟩) 1 1] 26)
 have u3 := Up.alloc (((w.alloc (.cells #[.int .i64 a] 3)).alloc (.cells #[.int .i64 b] 3)).alloc (.cells #[.int .i64 c] 3)) (.cells #[.int .i64 d] 3)
 have u2 := Up.alloc ((w.alloc (.cells #[.int .i64 a] 3)).alloc (.cells #[.int .i64 b] 3)) (.cells #[.int .i64 c] 3)
 have u1 := Up.alloc (w.alloc (.cells #[.int .i64 a] 3)) (.cells #[.int .i64 b] 3)
 have u0 := Up.alloc w (.cells #[.int .i64 a] 3)
 refine ⟨Kl (f := fun k => .slice (some ⟨w.heap.size + k, 0, none⟩) 1 1) rfl (fun k hk => ?_) (fun k hk => ?_), ((((u0.trans u1).trans u2).trans u3).trans hL)⟩
 ·rw [← hsz, aT]
  match k, hk with
  | 0, _ => rfl
  | 1, _ => rfl
  | 2, _ => rfl
  | 3, _ => rfl
 ·match k, hk with
  | 0, _ => exact aB.keep s0 ((((u1.trans u2).trans u3).trans hL).kept _)
  | 1, _ => exact aB.keep s1 (((u2.trans u3).trans hL).kept _)
  | 2, _ => exact aB.keep s2 ((u3.trans hL).kept _)
  | 3, _ => exact aB.keep s3 (hL.kept _)
def ur (w : World) : World := ((w.alloc (.cells #[.int .i64 0, .int .i64 2] 3)).alloc (.cells #[.int .i64 0, .int .i64 (-1)] 3)).alloc (.cells #[.int .i64 1, .int .i64 3] 3)
theorem Rn (w : World) : bh Any ((ur w).alloc (.cells #[.slice (some ⟨w.heap.size, 0, none⟩) 2 2, .slice (some ⟨w.heap.size + 1, 0, none⟩) 2 2, .slice (some ⟨w.heap.size + 1 + 1, 0, none⟩) 2 2] 26)) (.slice (some ⟨w.heap.size + 1 + 1 + 1, 0, none⟩) 3 3) JT ∧ Up w ((ur w).alloc (.cells #[.slice (some ⟨w.heap.size, 0, none⟩) 2 2, .slice (some ⟨w.heap.size + 1, 0, none⟩) 2 2, .slice (some ⟨w.heap.size + 1 + 1, 0, none⟩) 2 2] 26)) := by
 have s0 := sH w #[.int .i64 0, .int .i64 2] 3 [0, 2] rfl 2 rfl
 have s1 := sH (w.alloc (.cells #[.int .i64 0, .int .i64 2] 3)) #[.int .i64 0, .int .i64 (-1)] 3 [0, -1] rfl 2 rfl
 have s2 := sH ((w.alloc (.cells #[.int .i64 0, .int .i64 2] 3)).alloc (.cells #[.int .i64 0, .int .i64 (-1)] 3)) #[.int .i64 1, .int .i64 3] 3 [1, 3] rfl 2 rfl
 simp only [World.size_alloc] at s1 s2
 have hsz : (ur w).heap.size = w.heap.size + 1 + 1 + 1 := by unfold ur; simp only [World.size_alloc]
 have hL := Up.alloc (ur w) (.cells #[.slice (some ⟨w.heap.size, 0, none⟩) 2 2, .slice (some ⟨w.heap.size + 1, 0, none⟩) 2 2, .slice (some ⟨w.heap.size + 1 + 1, 0, none⟩) 2 2] 26)
 have u2 := Up.alloc ((w.alloc (.cells #[.int .i64 0, .int .i64 2] 3)).alloc (.cells #[.int .i64 0, .int .i64 (-1)] 3)) (.cells #[.int .i64 1, .int .i64 3] 3)
 have u1 := Up.alloc (w.alloc (.cells #[.int .i64 0, .int .i64 2] 3)) (.cells #[.int .i64 0, .int .i64 (-1)] 3)
 have u0 := Up.alloc w (.cells #[.int .i64 0, .int .i64 2] 3)
 refine ⟨Kl (f := fun k => .slice (some ⟨w.heap.size + k, 0, none⟩) 2 2) rfl (fun k hk => ?_) (fun k hk => ?_), (((u0.trans u1).trans u2).trans hL)⟩
 ·rw [← hsz, aT]
  match k, hk with
  | 0, _ => rfl
  | 1, _ => rfl
  | 2, _ => rfl
 ·match k, hk with
  | 0, _ => exact aB.keep s0 (((u1.trans u2).trans hL).kept _)
  | 1, _ => exact aB.keep s1 ((u2.trans hL).kept _)
  | 2, _ => exact aB.keep s2 (hL.kept _)
theorem nm4_sz (k : Nat) : (gs ru k).size ≤ 70000 := iN (M := 70000) (by decide) k
theorem Km {l : List (List Int)} (h : ∀ x ∈ l, x.length ≤ 1000000) (k : Nat) : (gl l k).length ≤ 1000000 := by
 by_cases hk : k < l.length
 ·have : gl l k = l[k] := by simp [gl, hk]
  rw [this]; exact h _ (List.getElem_mem hk)
 ·have : gl l k = [] := by simp [gl, show l.length ≤ k by omega]
  rw [this]; simp
set_option maxHeartbeats 4000000 in
theorem Ro (w : World) : Calls Tryz.prog 28 #[] w fun e w' => e = .returned (.bool true) ∧ Up w w' := by
 have cD : NP 7 = 945 ∧ NN 7 = 0 := by decide +kernel
 have aX := Up.alloc w (.cells #[.string ⟨#[65]⟩, .string ⟨#[66]⟩, .string ⟨#[67]⟩, .string ⟨#[68]⟩] 9)
 have X7 := GS w #[.string ⟨#[65]⟩, .string ⟨#[66]⟩, .string ⟨#[67]⟩, .string ⟨#[68]⟩] 9 ru rfl 4 rfl
 have bT := aa aX
 have Qq := aa X7
 clear aX X7
 go_enter Tryz.func28, Tryz.ntmps28
 go_wp2_with fail
 refine (QW 7 (by decide) w).mono ?_
 rintro e w0 ⟨rfl, rfl⟩
 rw [cD.1, cD.2]
 clear cD
 have VO := aa (Rm (w.alloc (.cells #[.string ⟨#[65]⟩, .string ⟨#[66]⟩, .string ⟨#[67]⟩, .string ⟨#[68]⟩] 9)) 0 0 1 1)
 have FP := aa (T3 Any _ _ _ ru vM (av.keep Qq.out (VO.out.2.kept _)) (by decide) nm4_sz VO.out.1 (by decide) (Km (by decide)) (.inl (by decide)))
 have bH := aa (bT.out.trans VO.out.2)
 simp only [World.size_alloc] at FP bH
 unfold zL at FP bH
 go_wp2_with fail
 refine FP.out.mono ?_
 rintro e w2 ⟨aK, v2, rfl, ht2⟩
 have e1 : De ru vM = 1 := by unfold De; rw [JU, if_pos rfl, JV]
 have e2 : Df ru vM = [tD] := by unfold Df; rw [if_pos JU, WR]
 rw [e2] at ht2
 rw [e1, JU]
 obtain ⟨p2, c2, rfl, -⟩ := rT ht2
 have dS := aa (bH.out.trans aK)
 have q9 : Hid (dz Any w2 (.slice p2 1 c2) [tD]) := ht2
 have h1 := sH w2 #[.int .i64 (-1), .int .i64 0, .int .i64 0, .int .i64 2, .int .i64 2, .int .i64 4, .int .i64 4] 3 tD.ps rfl 7 rfl
 have h2 := GS (w2.alloc (.cells #[.int .i64 (-1), .int .i64 0, .int .i64 0, .int .i64 2, .int .i64 2, .int .i64 4, .int .i64 4] 3)) #[.string ⟨#[]⟩, .string ⟨#[65]⟩, .string ⟨#[]⟩, .string ⟨#[66]⟩, .string ⟨#[]⟩, .string ⟨#[67]⟩, .string ⟨#[68]⟩] 9 tD.ns rfl 7 rfl
 have u1 := Up.alloc w2 (.cells #[.int .i64 (-1), .int .i64 0, .int .i64 0, .int .i64 2, .int .i64 2, .int .i64 4, .int .i64 4] 3)
 have u2 := Up.alloc (w2.alloc (.cells #[.int .i64 (-1), .int .i64 0, .int .i64 0, .int .i64 2, .int .i64 2, .int .i64 4, .int .i64 4] 3)) (.cells #[.string ⟨#[]⟩, .string ⟨#[65]⟩, .string ⟨#[]⟩, .string ⟨#[66]⟩, .string ⟨#[]⟩, .string ⟨#[67]⟩, .string ⟨#[68]⟩] 9)
 have u3 := Up.alloc ((w2.alloc (.cells #[.int .i64 (-1), .int .i64 0, .int .i64 0, .int .i64 2, .int .i64 2, .int .i64 4, .int .i64 4] 3)).alloc (.cells #[.string ⟨#[]⟩, .string ⟨#[65]⟩, .string ⟨#[]⟩, .string ⟨#[66]⟩, .string ⟨#[]⟩, .string ⟨#[67]⟩, .string ⟨#[68]⟩] 9)) (.cells #[.slice (some ⟨w2.heap.size, 0, none⟩) 7 7, .slice (some ⟨w2.heap.size + 1, 0, none⟩) 7 7] 39)
 have k0 := ew ((w2.alloc (.cells #[.int .i64 (-1), .int .i64 0, .int .i64 0, .int .i64 2, .int .i64 2, .int .i64 4, .int .i64 4] 3)).alloc (.cells #[.string ⟨#[]⟩, .string ⟨#[65]⟩, .string ⟨#[]⟩, .string ⟨#[66]⟩, .string ⟨#[]⟩, .string ⟨#[67]⟩, .string ⟨#[68]⟩] 9)) (.slice (some ⟨w2.heap.size, 0, none⟩) 7 7) (.slice (some ⟨w2.heap.size + 1, 0, none⟩) 7 7) 39
 have k1 := ey ((w2.alloc (.cells #[.int .i64 (-1), .int .i64 0, .int .i64 0, .int .i64 2, .int .i64 2, .int .i64 4, .int .i64 4] 3)).alloc (.cells #[.string ⟨#[]⟩, .string ⟨#[65]⟩, .string ⟨#[]⟩, .string ⟨#[66]⟩, .string ⟨#[]⟩, .string ⟨#[67]⟩, .string ⟨#[68]⟩] 9)) (.slice (some ⟨w2.heap.size, 0, none⟩) 7 7) (.slice (some ⟨w2.heap.size + 1, 0, none⟩) 7 7) 39
 simp only [World.size_alloc] at h2 k0 k1
 have HTW := aa (aC.keep (S := Any) (t := tD) ⟨_, _, rfl, aB.keep h1 (u2.kept _), h2⟩ (u3.kept _))
 have HUT := aa ((u1.trans u2).trans u3)
 have yK := aa (And.intro k0 k1)
 have HST : Hid ((((w2.alloc (.cells #[.int .i64 (-1), .int .i64 0, .int .i64 0, .int .i64 2, .int .i64 2, .int .i64 4, .int .i64 4] 3)).alloc (.cells #[.string ⟨#[]⟩, .string ⟨#[65]⟩, .string ⟨#[]⟩, .string ⟨#[66]⟩, .string ⟨#[]⟩, .string ⟨#[67]⟩, .string ⟨#[68]⟩] 9)).alloc (.cells #[.slice (some ⟨w2.heap.size, 0, none⟩) 7 7, .slice (some ⟨w2.heap.size + 1, 0, none⟩) 7 7] 39)).heap.size = w2.heap.size + 1 + 1 + 1) := by unfold Hid; simp only [World.size_alloc]
 clear aK ht2 e1 e2 FP VO bH Qq bT h1 h2 u1 u2 u3 k0 k1
 have HL3 : Hid (∀ W : World, W.heap.size = w2.heap.size + 1 + 1 + 1 → bh Any ((ur W).alloc (.cells #[.slice (some ⟨w2.heap.size + 1 + 1 + 1, 0, none⟩) 2 2, .slice (some ⟨w2.heap.size + 1 + 1 + 1 + 1, 0, none⟩) 2 2, .slice (some ⟨w2.heap.size + 1 + 1 + 1 + 1 + 1, 0, none⟩) 2 2] 26)) (.slice (some ⟨w2.heap.size + 1 + 1 + 1 + 1 + 1 + 1, 0, none⟩) 3 3) JT ∧ Up W ((ur W).alloc (.cells #[.slice (some ⟨w2.heap.size + 1 + 1 + 1, 0, none⟩) 2 2, .slice (some ⟨w2.heap.size + 1 + 1 + 1 + 1, 0, none⟩) 2 2, .slice (some ⟨w2.heap.size + 1 + 1 + 1 + 1 + 1, 0, none⟩) 2 2] 26))) := fun W hW => by
  have h := Rn W
  rw [hW] at h; exact h
 go_wp2_with fail
 generalize ((w2.alloc (.cells #[.int .i64 (-1), .int .i64 0, .int .i64 0, .int .i64 2, .int .i64 2, .int .i64 4, .int .i64 4] 3)).alloc (.cells #[.string ⟨#[]⟩, .string ⟨#[65]⟩, .string ⟨#[]⟩, .string ⟨#[66]⟩, .string ⟨#[]⟩, .string ⟨#[67]⟩, .string ⟨#[68]⟩] 9)).alloc (.cells #[.slice (some ⟨w2.heap.size, 0, none⟩) 7 7, .slice (some ⟨w2.heap.size + 1, 0, none⟩) 7 7] 39) = w7 at *
 obtain ⟨hr, hur⟩ := HL3.out w7 HST.out
 unfold ur at hr hur
 have HUR := aa hur
 have VK := aa (Q5 Any _ _ JT hr (by decide) (Km (by decide)))
 clear hr hur HL3
 generalize ((((w7.alloc (.cells #[.int .i64 0, .int .i64 2] 3)).alloc (.cells #[.int .i64 0, .int .i64 (-1)] 3)).alloc (.cells #[.int .i64 1, .int .i64 3] 3)).alloc (.cells #[.slice (some ⟨w2.heap.size + 1 + 1 + 1, 0, none⟩) 2 2, .slice (some ⟨w2.heap.size + 1 + 1 + 1 + 1, 0, none⟩) 2 2, .slice (some ⟨w2.heap.size + 1 + 1 + 1 + 1 + 1, 0, none⟩) 2 2] 26)) = w8 at *
 refine VK.out.mono ?_
 rintro e w9 ⟨rfl, um⟩
 have e3 : NL JT = 2 := by unfold NL; rw [if_pos Bu.1, Bu.2]
 have e4 : NK JT = 0 := by unfold NK; rw [if_pos Bu.1]
 rw [e3, e4]
 have AE := HUR.out.trans um
 have k0 := AE.cell yK.out.1
 have k1 := AE.cell yK.out.2
 have HT9 := aa (q9.out.keep ((HUT.out.trans AE).kept _))
 have HW9 := aa (HTW.out.keep (AE.kept _))
 have VH := aa (dS.out.trans (HUT.out.trans AE))
 have bq := Up.alloc w9 (.cells #[.slice (some ⟨w2.heap.size, 0, none⟩) 7 7, .slice (some ⟨w2.heap.size + 1, 0, none⟩) 7 7] 39)
 have aY : Hid (dz Any (w9.alloc (.cells #[.slice (some ⟨w2.heap.size, 0, none⟩) 7 7, .slice (some ⟨w2.heap.size + 1, 0, none⟩) 7 7] 39)) (.slice (some ⟨w9.heap.size, 0, none⟩) 1 1) [tD]) := by
  refine ⟨_, _, rfl, Nat.le_refl _, .inr ⟨_, 0, rfl, trivial, fun k hk => ?_⟩⟩
  obtain rfl : k = 0 := by have : k < 1 := hk; omega
  exact ⟨_, _, ew w9 _ _ _, ey w9 _ _ _, HW9.out.keep (bq.kept _)⟩
 have HSM := aa (FZ Any Any _ _ _ [tD] [tD] (HT9.out.keep (bq.kept _)) aY.out (by decide) (fun k => by
  match k with
  | 0 => exact ⟨by decide, by decide⟩
  | k + 1 => exact ⟨Nat.zero_le _, Nat.zero_le _⟩))
 have HU10 := aa (VH.out.trans bq)
 clear um AE bq e3 e4 VK yK HTW q9 HUR HUT HST HT9 HW9 dS VH aY
 go_wp2_with fail
 refine HSM.out.mono ?_
 rintro e w11 ⟨rfl, hu11⟩
 have PX := aa (HU10.out.trans hu11)
 simp only [decide_true]
 clear hu11 HSM
 go_wp2_with fail
 go_ret
 exact ⟨rfl, PX.out⟩
end
section
open Go.RowKit Go.Deep
end
end Go.Proofs.YteegefnjnikngaaGreat
