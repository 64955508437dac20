/- Plain: the examples of layer 34 and of the top's chapter. optimaltree.Best. Reference 34: .. -/
import Derived.Test.YthgabkgmkolobaaGreatQ1
import Derived.Test.YthgabkgmkolobaaGreatQ41
import Derived.Test.YthgabkgmkolobaaGreatQ14
import Derived.Test.YthgabkgmkolobaaGreatQ23
import Derived.Test.YthgabkgmkolobaaGreatQ38
import Derived.Test.YthgabkgmkolobaaGreatQ8
set_option maxRecDepth 100000
namespace Go.Proofs.YthgabkgmkolobaaGreat
section
def qI : List ByteArray := [⟨#[65]⟩, ⟨#[66]⟩, ⟨#[67]⟩, ⟨#[68]⟩]
def vo : List (List Int) := [[0], [0], [1], [1]]
def Jq : List (List Int) := [[0, 2], [0, -1], [1, 3]]
def sS : ay := ⟨[-1, 0, 0, 2, 2, 4, 4], [⟨#[]⟩, ⟨#[65]⟩, ⟨#[]⟩, ⟨#[66]⟩, ⟨#[]⟩, ⟨#[67]⟩, ⟨#[68]⟩]⟩
def DA : ay := ⟨[-1, 0, 0, 2, 3, 3, 2], [⟨#[]⟩, ⟨#[65]⟩, ⟨#[]⟩, ⟨#[]⟩, ⟨#[66]⟩, ⟨#[67]⟩, ⟨#[68]⟩]⟩
def DB : ay := ⟨[-1, 0, 0, 2, 3, 3, 2], [⟨#[]⟩, ⟨#[65]⟩, ⟨#[]⟩, ⟨#[]⟩, ⟨#[66]⟩, ⟨#[68]⟩, ⟨#[67]⟩]⟩
theorem Qy : allT qI = [DA, DB, sS] := by decide +kernel
theorem Jr : cI qI vo = 0 := by decide +kernel
theorem aw_s : bG sS qI vo = 1 ∧ bG DA qI vo = 2 ∧ bG DB qI vo = 2 := by decide +kernel
theorem Js : bT qI vo = 1 := by
 obtain ⟨h1, h2, h3⟩ := aw_s
 unfold bT
 rw [Qy]
 show mnK (fun k => bG (gt [DA, DB, sS] k) qI vo) 3 = 1
 have e0 : bG (gt [DA, DB, sS] 0) qI vo = 2 := h2
 have e1 : bG (gt [DA, DB, sS] 1) qI vo = 2 := h3
 have e2 : bG (gt [DA, DB, sS] 2) qI vo = 1 := h1
 simp [mnK, e0, e1, e2]
theorem WQ : dI qI vo = [sS] := by
 obtain ⟨h1, h2, h3⟩ := aw_s
 unfold dI
 rw [Qy, Js]
 simp [h1, h2, h3]
theorem Bd : cn Jq = 0 ∧ qw Jq = 2 := by decide +kernel
end
section
open Go.RowKit Go.Deep
def nZ (names : List ByteArray) (states : List (List Int)) : Int := if cI names states = 0 then bT names states else 0
def ja (names : List ByteArray) (states : List (List Int)) : List ay := if cI names states = 0 then dI names states else []
def wF (w : World) (names : List ByteArray) (states : List (List Int)) (e : Ending) (w' : World) : Prop :=
 Up w w' ∧ ∃ v, e = .returned (.tuple #[v, .int .i64 (nZ names states), .int .i64 (cI names states)]) ∧ cD Any w' v (ja names states)
def BeI (w : World) (names : List ByteArray) (states : List (List Int)) (n : Nat) (wr : World) : Prop := Up w wr ∧ SMap wr w.heap.size (scK names states n)
def BeJ (w : World) (names : List ByteArray) (states : List (List Int)) (n : Nat) (out : Value) (wr : World) : Prop := Up w wr ∧ ∃ es : List l6, ic w.heap.size wr out es ∧ es.map (·.2) = qx names states n
theorem WR {names : List ByteArray} (hn : cH names) {k : Nat} (h : k < (aM names).length) : az (gt (allT names) k) = 0 ∧ kZ (gt (allT names) k) names = true ∧ ∀ i, (gs (gt (allT names) k).ns i).size ≤ 70000 := by
 have h2 : k < (allT names).length := by unfold allT; rw [List.length_map]; exact h
 have ho := (o6 hn (sD h2)).1
 refine ⟨ho.te, (Ck hn ho.te).2 ho, ?_⟩
 rw [Dy h]
 exact pQ (cQ hn (Jk h)).1.good
set_option maxHeartbeats 4000000 in
theorem Bf (S : Nat → Prop) (w : World) (v vs : Value) (names : List ByteArray) (states : List (List Int)) (h : ah S w v names) (hn : names.length ≤ 1000000) (hz : ∀ k, (gs names k).size ≤ 70000) (hS : aU S w vs states) (pY : states.length ≤ 1000000) (hr : ∀ k, (gl states k).length ≤ 1000000) (h5 : names.length ≤ 5 ∨ 7 < names.length) :
  Calls Tryz.prog 17 #[v, vs] w (wF w names states) := by
 have eY := aa (EZ S w v vs names states h hn hz hS pY hr)
 obtain ⟨mp, mc, rfl, -, -⟩ := aB.open h
 have h : ah S w (.slice mp names.length mc) names := h
 obtain ⟨sp, sc, rfl, -, -⟩ := eR hS
 have HN := aa h
 have HS := aa hS
 have zX : Hid (cI names states = 0 → k6 names states) := wD h5
 clear h hS hz hr h5
 go_enter Tryz.func17, Tryz.ntmps17
 go_wp2_with fail
 refine eY.out.mono ?_
 rintro e w1 ⟨rfl, aR⟩
 by_cases c1 : cI names states = 0
 ·have hc := zX.out c1
  have u7 := aa (E1 S w1 _ names hc.nm (ah.keep HN.out (aR.kept S)))
  have HC := aa hc
  have ey : Hid (∀ W v, Up w W → cD Any W v (dI names states) → wF w names states (.returned (.tuple #[v, .int .i64 (bT names states), .int .i64 0])) W) := fun W v hu ht => ⟨hu, v, by unfold nZ; rw [c1]; rfl, by unfold ja; rw [if_pos c1]; exact ht⟩
  have hl0 : (allT names).length = (aM names).length := by unfold allT; rw [List.length_map]
  have fA : (aM names).length ≤ 15 := by rw [lN hc.nm]; split <;> (try split) <;> (try split) <;> omega
  have HL := aa (And.intro hl0 fA)
  have bH := aa aR
  rw [c1]
  clear c1 hc aR hl0 fA eY zX
  go_wp2_with fail
  refine u7.out.mono ?_
  rintro e w2 ⟨aG, ev, rfl, Jt⟩
  obtain ⟨eg, ec, rfl⟩ := E8 Jt
  have bw := aa (bH.out.trans aG)
  have tI := aa Jt
  have Hp := aa (ah.keep HN.out (bw.out.kept S))
  have lW := aa (aU.keep HS.out (bw.out.kept S))
  have sG : Hid (BeI w2 names states 0 (w2.alloc (.map #[] 0))) := ⟨Up.alloc _ _, SMap.made _⟩
  have hmm := fun W => run_makeMap (P := Tryz.prog) 94 W
  clear aG Jt u7 bH
  go_wp2_with fail
  clear hmm
  go_loopw [4, 5, 6, 11, 13, 14, 15, 36] (fun _ _ _ s _ _ _ i wr => ∃ n : Nat, n ≤ (aM names).length ∧ i = .int .i64 n ∧ s = .int .i64 (sR names states n) ∧ Hid (BeI w2 names states n wr)) (fun _ _ _ _ _ _ _ i _ => (aM names).length - (intOf i).toNat)
  case atStart => exact ⟨0, Nat.zero_le _, rfl, rfl, sG.out⟩
  case round =>
   obtain ⟨n, hn, rfl, rfl, hI⟩ := hrel
   obtain ⟨wo, rfl⟩ : ∃ wo : World, wo = wr := ⟨_, rfl⟩
   obtain ⟨dH, hM⟩ := hI.out
   by_cases hlt : n < (aM names).length
   ·obtain ⟨pp, pc, np, nc, c0, c1, c2, hT⟩ := Bb tI.out hlt
    replace c0 := dH.cell c0
    replace c1 := dH.cell c1
    replace c2 : wo.cell? ⟨eg, n * 3 + 2, none⟩ = some (.string (aK (gR names n))) := dH.cell c2
    obtain ⟨te, fi, tz⟩ := WR HC.out.nm hlt
    have hbd := Jn HC.out (n := n) (by rw [HL.out.1]; exact hlt)
    have hmb := Qo HC.out (n := n) (by rw [HL.out.1]; exact hn)
    have LQ := aa (Th names states n)
    have hsc : pU (gt (allT names) n) names states = .tuple #[.int .i64 (oy names states n), .int .i64 0] := by unfold pU oy; rw [fi]; rfl
    replace hT : aA Any wo (.agg #[.slice pp (gt (allT names) n).ps.length pc, .slice np (gt (allT names) n).ns.length nc]) (gt (allT names) n) := aA.keep hT (dH.kept _)
    replace c0 : wo.cell? ⟨eg, n * 3, none⟩ = some (.slice pp (gt (allT names) n).ps.length pc) := c0
    replace c1 : wo.cell? ⟨eg, n * 3 + 1, none⟩ = some (.slice np (gt (allT names) n).ns.length nc) := c1
    have yS : Hid (∀ W, Up wo W → Calls Tryz.prog 69 #[.agg #[.slice pp (gt (allT names) n).ps.length pc, .slice np (gt (allT names) n).ns.length nc], .slice mp names.length mc, .slice sp states.length sc] W fun e w' => e = .returned (.tuple #[.int .i64 (oy names states n), .int .i64 0]) ∧ Up W w') := fun W hW => by
     rw [← hsc]
     exact E7 Any W _ _ _ _ names states (hT.keep (hW.kept _)) te tz ((ah.keep Hp.out ((dH.trans hW).kept S)).sub fun _ _ _ => trivial) ((aU.keep lW.out ((dH.trans hW).kept S)).sub fun _ _ _ => trivial) HC.out
    have HMS : Hid (scK names states (n + 1) = r7 (scK names states n) (aK (gR names n)) (.int .i64 (oy names states n))) := rfl
    have HUQ := aa (Jl names states n)
    have HMo := aa hM
    have vk := aa dH
    have aV := aa hlt
    have i4 : (n : Int) < ((aM names).length : Int) := by omega
    have i5 : (n : Int) < 16 := by have := HL.out.2; omega
    clear hI dH hM te fi tz hsc hlt
    generalize gt (allT names) n = q at *
    generalize aK (gR names n) = key at *
    have dR : Hid (Up wo (wo.alloc (.cells #[.slice pp q.ps.length pc, .slice np q.ns.length nc, .string key] 96)) ∧ (wo.alloc (.cells #[.slice pp q.ps.length pc, .slice np q.ns.length nc, .string key] 96)).cell? ⟨wo.heap.size, 2, none⟩ = some (.string key) ∧ (wo.alloc (.cells #[.slice pp q.ps.length pc, .slice np q.ns.length nc, .string key] 96)).heap[w2.heap.size]? = wo.heap[w2.heap.size]?) := by
     refine ⟨Up.alloc _ _, aO wo _ _ 2, Below.block (Up.alloc wo _) _ HMo.out.lt⟩
    have HSC0 := aa (yS.out _ dR.out.1)
    generalize oy names states n = f at *
    generalize sR names states n = m at *
    go_wp2_with fail
    generalize wo.alloc (.cells #[.slice pp q.ps.length pc, .slice np q.ns.length nc, .string key] 96) = w7 at *
    refine HSC0.out.mono ?_
    rintro e w9 ⟨rfl, iH⟩
    obtain ⟨xD, hk7, hm7⟩ := dR.out
    have hk9 := iH.cell hk7
    have hM9 : SMap w9 w2.heap.size (scK names states n) := HMo.out.same ((Below.block iH _ (by have := xD.size; have := HMo.out.lt; omega)).trans hm7)
    have LR := (vk.out.trans xD).trans iH
    obtain ⟨w5, hrun, hm5, hs5, z8, LS, hou5, nB⟩ := Sr (P := Tryz.prog) Tryz.underlying94 Tryz.underlying9 hM9 HUQ.out key (.int .i64 f)
    have HI5 : Hid (BeI w2 names states (n + 1) w5) := ⟨⟨z8.trans LR.os, LS.trans LR.tape, hou5.trans LR.output, by rw [hs5]; exact LR.size, fun b hb => (nB b (by omega)).trans (LR.block b hb)⟩, by rw [HMS.out]; exact hm5⟩
    clear hm5 hs5 z8 LS hou5 nB hM9 LR iH xD hk7 hm7 dR yS HSC0 hT c0 c1 c2
    by_cases e1 : m < 0
    ·have HE : Hid (sR names states (n + 1) = f) := by unfold Hid; rw [LQ.out, if_pos (.inl e1)]
     have d1 : decide (m < 0) = true := by simp [e1]
     clear LQ e1
     go_wp2_with fail
     go_roundw
     case rel => exact ⟨n + 1, aV.out, by go_num, by rw [HE.out], HI5.out⟩
     case measure => have := aV.out; simp [intOf]; omega
    ·have d1 : decide (m < 0) = false := by simp; omega
     by_cases e2 : f < m
     ·have HE : Hid (sR names states (n + 1) = f) := by unfold Hid; rw [LQ.out, if_pos (.inr e2)]
      have d2 : decide (f < m) = true := by simp [e2]
      clear LQ e1 e2
      go_wp2_with fail
      go_roundw
      case rel => exact ⟨n + 1, aV.out, by go_num, by rw [HE.out], HI5.out⟩
      case measure => have := aV.out; simp [intOf]; omega
     ·have HE : Hid (sR names states (n + 1) = m) := by unfold Hid; rw [LQ.out, if_neg (by omega)]
      have d2 : decide (f < m) = false := by simp; omega
      clear LQ e1 e2
      go_wp2_with fail
      go_roundw
      case rel => exact ⟨n + 1, aV.out, by go_num, by rw [HE.out], HI5.out⟩
      case measure => have := aV.out; simp [intOf]; omega
   ·obtain rfl : n = (aM names).length := by omega
    have HMB := aa hM
    have uM := aa dH
    have HEB := aa (tI.out.keep dH)
    have PU : Hid (BeJ wo names states 0 (.slice none 0 0) wo) := ⟨Up.refl _, [], ic.nil _ _, by simp [qx]⟩
    have hlst : sR names states (aM names).length = bT names states := by rw [← HL.out.1]; exact WD names states
    rw [hlst]
    clear hI dH hM hlt hlst
    have HFX2 := aa (fun W v (hu : Up wo W) ht => ey.out W v ((bw.out.trans uM.out).trans hu) ht)
    go_wp2_with fail
    go_loopw [16, 18, 66] (fun out _ i wr => ∃ k : Nat, k ≤ (aM names).length ∧ i = .int .i64 k ∧ Hid (BeJ wo names states k out wr)) (fun _ _ i _ => (aM names).length - (intOf i).toNat)
    case atStart => exact ⟨0, Nat.zero_le _, rfl, PU.out⟩
    case round =>
     obtain ⟨k, hk, rfl, hI⟩ := hrel
     obtain ⟨wi, rfl⟩ : ∃ wi : World, wi = wr := ⟨_, rfl⟩
     obtain ⟨lu, es, hes, hem⟩ := hI.out
     by_cases hlt : k < (aM names).length
     ·obtain ⟨pp, pc, np, nc, c0, c1, c2, hT⟩ := Bb HEB.out hlt
      replace c0 := lu.cell c0
      replace c1 := lu.cell c1
      replace c2 : wi.cell? ⟨eg, k * 3 + 2, none⟩ = some (.string (aK (gR names k))) := lu.cell c2
      have hlt2 : k < (allT names).length := by rw [HL.out.1]; exact hlt
      have og := aa (Qn states hlt2)
      have Vv := Jm HC.out.nm states hlt (n := (aM names).length) (Nat.le_refl _) hlt
      replace hT : aA (fun b => b < wo.heap.size) wi (.agg #[.slice pp (gt (allT names) k).ps.length pc, .slice np (gt (allT names) k).ns.length nc]) (gt (allT names) k) := aA.keep (hT.sub fun b _ hb => hb) (lu.kept _)
      replace c0 : wi.cell? ⟨eg, k * 3, none⟩ = some (.slice pp (gt (allT names) k).ps.length pc) := c0
      replace c1 : wi.cell? ⟨eg, k * 3 + 1, none⟩ = some (.slice np (gt (allT names) k).ns.length nc) := c1
      generalize gt (allT names) k = q at *
      generalize aK (gR names k) = key at *
      have bf := Up.alloc wi (.cells #[.slice pp q.ps.length pc, .slice np q.ns.length nc, .string key] 96)
      have hM7 : SMap (wi.alloc (.cells #[.slice pp q.ps.length pc, .slice np q.ns.length nc, .string key] 96)) w2.heap.size (scK names states (aM names).length) := HMB.out.same (Below.block (lu.trans bf) _ HMB.out.lt)
      have hlk := Pp (P := Tryz.prog) Tryz.underlying94 Tryz.underlying9 (Su _) hM7 key
      rw [Vv] at hlk
      simp only [Option.getD_some] at hlk
      obtain ⟨op, oc, rfl⟩ := hes.form
      obtain ⟨m, hm⟩ : ∃ m, es.length = m := ⟨_, rfl⟩
      have hmk : m ≤ k := by
       rw [← hm]
       have := congrArg List.length hem
       rw [List.length_map] at this
       rw [this]
       unfold qx
       exact Nat.le_trans (List.length_filter_le _ _) (by rw [List.length_take]; omega)
      rw [hm]
      have tL : Hid (ic wo.heap.size (wi.alloc (.cells #[.slice pp q.ps.length pc, .slice np q.ns.length nc, .string key] 96)) (.slice op m oc) es) := by have h := hes.up bf; rw [hm] at h; exact h
      have I9 : Hid (aA (fun b => some b ≠ (Value.slice op m oc).ownBlock) (wi.alloc (.cells #[.slice pp q.ps.length pc, .slice np q.ns.length nc, .string key] 96)) (.agg #[.slice pp q.ps.length pc, .slice np q.ns.length nc]) q) := by
       have h2 := hes.1
       rw [hm] at h2
       exact (hT.keep (bf.kept _)).sub fun b hb _ e => by have := (World.ownsRow.lt h2 b e.symm).1; omega
      have yV := aa (lu.trans bf)
      have P9 := aa hem
      have Lb := aa hm
      have aV := aa hlt
      have i4 : (k : Int) < ((aM names).length : Int) := by omega
      have i5 : (k : Int) < 16 := by have := HL.out.2; omega
      have XD : Hid (m ≤ 1000000) := by have := HL.out.2; unfold Hid; omega
      clear hI lu hes hem hlt hlt2 hT bf hm Vv hM7 hmk
      generalize oy names states k = f at *
      generalize bT names states = le at *
      by_cases e1 : f = le
      ·have d1 : (f == le) = true := by simp [e1]
       have qJ : Hid (qx names states (k + 1) = qx names states k ++ [q]) := by unfold Hid; rw [og.out, if_pos e1]
       subst e1
       go_wp2_with (at_builtin; refine sO _ rfl _ _ 33 rfl wo.heap.size _ 48 Tryz.underlying33 Tryz.infoTree rfl (by decide) tL.out rfl ((.slice pp q.ps.length pc, .slice np q.ns.length nc), q) (by rw [World.size_alloc]; rfl) I9.out m Lb.out XD.out yV.out.size ?_; intro g8 gW w8 bU cG sH; have sI := aa bU; have iX := aa sH; clear bU cG sH)
       go_roundw
       case rel => exact ⟨k + 1, aV.out, by go_num, Below.trans (show Below wo.heap.size wo _ from yV.out) iX.out, _, sI.out, by rw [qJ.out, List.map_append, P9.out]; rfl⟩
       case measure => have := aV.out; simp [intOf]; omega
      ·have d1 : (f == le) = false := by simp [e1]
       have qJ : Hid (qx names states (k + 1) = qx names states k) := by unfold Hid; rw [og.out, if_neg e1, List.append_nil]
       clear e1
       go_wp2_with fail
       go_roundw
       case rel => exact ⟨k + 1, aV.out, by go_num, yV.out, _, tL.out, by rw [qJ.out, P9.out]⟩
       case measure => have := aV.out; simp [intOf]; omega
     ·obtain rfl : k = (aM names).length := by omega
      have sJ : es.map (·.2) = dI names states := by rw [hem, ← HL.out.1, Tg]
      obtain ⟨op, oc, rfl⟩ := hes.form
      have qf := aa (HFX2.out wi _ lu (sJ ▸ hes.trees))
      clear hI lu hes hem sJ hlt
      go_wp2_with fail
      exact ⟨rfl, .tuple #[.slice op es.length oc, .int .i64 (bT names states), .int .i64 0], by simp [results, Tryz.results17, go_sem], qf.out⟩
 ·have ey : Hid (wF w names states (.returned (.tuple #[.slice none 0 0, .int .i64 0, .int .i64 (cI names states)])) w1) := by
   refine ⟨aR, .slice none 0 0, ?_, ?_⟩
   ·unfold nZ; rw [if_neg c1]
   ·unfold ja; rw [if_neg c1]; exact cD.nil _ _
  generalize cI names states = a at *
  clear aR eY
  go_wp2_with fail
  exact ⟨rfl, .tuple #[.slice none 0 0, .int .i64 0, .int .i64 a], by simp [results, Tryz.results17, go_sem], ey.out⟩
end
section
open Go.RowKit Go.Deep
theorem Cy {a b : List ay} (hl : a.length = b.length) : (a = b) ↔ ∀ k, k < a.length → gt a k = gt b k := by
 constructor
 ·rintro rfl k _; rfl
 ·intro h
  refine List.ext_getElem hl fun i h1 h2 => ?_
  have := h i h1
  simpa [gt, h1, h2] using this
set_option maxHeartbeats 1000000 in
theorem FE (S T : Nat → Prop) (w : World) (v u : Value) (a b : List ay) (h : cD S w v a) (h2 : cD T w u b) (hn : a.length ≤ 1000000) (hz : ∀ k, (gt a k).ps.length ≤ 1000000 ∧ (gt a k).ns.length ≤ 1000000) :
  Calls Tryz.prog 44 #[v, u] w fun e w' => e = .returned (.bool (decide (a = b))) ∧ Up w w' := by
 obtain ⟨p, cap, rfl, hcap⟩ := gz h
 obtain ⟨q, dw, rfl, sX⟩ := gz h2
 have HX := aa h
 have HY := aa h2
 have HZ := aa hz
 clear h h2 hz
 by_cases hl : a.length = b.length
 ·have HS := aa (Cy hl)
  have fA : ((a.length : Int) != (b.length : Int)) = false := by simp [hl]
  have HL := aa hl
  clear hl
  go_enter Tryz.func44, Tryz.ntmps44
  go_wp2_with fail
  clear fA
  go_loopw [4, 5] (fun _ i wr => ∃ k : Nat, k ≤ a.length ∧ i = .int .i64 k ∧ Hid (Up w wr ∧ ∀ j, j < k → gt a j = gt b j)) (fun _ i _ => a.length - (intOf i).toNat)
  case atStart => exact ⟨0, Nat.zero_le _, rfl, Up.refl _, fun j hj => absurd hj (Nat.not_lt_zero _)⟩
  case round =>
   obtain ⟨k, hk, rfl, hI⟩ := hrel
   obtain ⟨wo, rfl⟩ : ∃ wo : World, wo = wr := ⟨_, rfl⟩
   by_cases hlt : k < a.length
   ·obtain ⟨ab, ao, pp, pc, np, nc, rfl, c0, c1, hT⟩ := mY (HX.out.keep (hI.out.1.kept S)) hlt
    obtain ⟨bb, bo, nR, nS, nT, nU, rfl, d0, d1, Cz⟩ := mY (HY.out.keep (hI.out.1.kept T)) (k := k) (by rw [← HL.out]; exact hlt)
    have HST := aa (Cx S T wo _ _ _ _ hT Cz (HZ.out k).1 (HZ.out k).2)
    have i1 : (0 : Int) ≤ (k : Int) := by omega
    have i2 : (k : Int) < (a.length : Int) := by omega
    have i3 : (k : Int) < (b.length : Int) := by have := HL.out; omega
    have uX : Hid (gt a k ≠ gt b k → decide (a = b) = false) := fun hne => decide_eq_false fun e => hne (HS.out.1 e k hlt)
    have xg : Hid (gt a k = gt b k → Up w wo ∧ ∀ j, j < k + 1 → gt a j = gt b j) := fun e => ⟨hI.out.1, fun j hj => if e2 : j = k then by subst e2; exact e else hI.out.2 j (by omega)⟩
    have vk := aa hI.out.1
    replace HST : Hid (Calls Tryz.prog 37 #[.agg #[.slice pp (gt a k).ps.length pc, .slice np (gt a k).ns.length nc], .agg #[.slice nR (gt b k).ps.length nS, .slice nT (gt b k).ns.length nU]] wo.drew fun e w' => e = .returned (.bool (decide (gt a k = gt b k))) ∧ Up wo w') := (Cx S T wo.drew _ _ _ _ (hT.keep ((Up.drewN wo 1).kept _)) (Cz.keep ((Up.drewN wo 1).kept _)) (HZ.out k).1 (HZ.out k).2).mono fun e w' ⟨h1, h2⟩ => ⟨h1, (Up.drewN wo 1).trans h2⟩
    clear hT Cz hI
    generalize gt a k = x at *
    generalize gt b k = y at *
    by_cases e : x = y
    ·have d9 : decide (x = y) = true := decide_eq_true e
     rw [d9] at HST
     have HIK2 := aa (xg.out e)
     clear e d9 uX xg
     go_wp2_with fail
     refine dM (by kernel_rfl) 9 (fun w' => w'.cell? ⟨ab, ao + k * 2, none⟩ = some (.slice pp x.ps.length pc) ∧ w'.cell? ⟨ab, ao + k * 2 + 1, none⟩ = some (.slice np x.ns.length nc) ∧ w'.cell? ⟨bb, bo + k * 2, none⟩ = some (.slice nR y.ps.length nS) ∧ w'.cell? ⟨bb, bo + k * 2 + 1, none⟩ = some (.slice nT y.ns.length nU)) ⟨c0, c1, d0, d1⟩ (fun hS => ?_)
     simp only [List.size_toArray, List.length_cons, List.length_nil, Nat.reduceAdd, Array.replicate_succ, Array.replicate_zero, List.push_toArray, List.nil_append, List.cons_append]
     refine af.take (i := 0) (v := ?tq) rfl (by kernel_rfl) (fun _ _ _ h => h) (by rfl) (fun w hSw => ?iE) hS ?tr
     case iE =>
      (try dsimp only at hSw)
      go_simp
      try with_reducible rfl
     try simp only [Act.put, au, av, ax]
     refine af.take (i := 1) (v := ?tu) rfl (by kernel_rfl) (fun _ _ _ h => h) (by rfl) (fun w hSw => ?iF) hS ?tA
     case iF =>
      (try dsimp only at hSw)
      go_simp
      try with_reducible rfl
     try simp only [Act.put, au, av, ax]
     refine af.take (i := 2) (v := ?vM) rfl (by kernel_rfl) (fun _ _ _ h => h) (by rfl) (fun w hSw => ?jF) hS ?vO
     case jF =>
      (try dsimp only at hSw)
      go_simp
      try with_reducible rfl
     try simp only [Act.put, au, av, ax]
     refine af.take (i := 3) (v := ?vP) rfl (by kernel_rfl) (fun _ _ _ h => h) (by rfl) (fun w hSw => ?jG) hS ?vQ
     case jG =>
      (try dsimp only at hSw)
      go_simp
      try with_reducible rfl
     try simp only [Act.put, au, av, ax]
     refine af.take (i := 4) (v := ?vR) rfl (by kernel_rfl) (fun _ _ _ h => h) (by rfl) (fun w hSw => ?jH) hS ?vS
     case jH =>
      (try dsimp only at hSw)
      go_simp
      try with_reducible rfl
     try simp only [Act.put, au, av, ax]
     refine af.take (i := 5) (v := ?vT) rfl (by kernel_rfl) (fun _ _ _ h => h) (by rfl) (fun w hSw => ?jI) hS ?vU
     case jI =>
      (try dsimp only at hSw)
      go_simp
      try with_reducible rfl
     try simp only [Act.put, au, av, ax]
     refine af.take (i := 6) (v := ?zj) rfl (by kernel_rfl) (fun _ _ _ h => h) (by rfl) (fun w hSw => ?lM) hS ?zk
     case lM =>
      (try dsimp only at hSw)
      go_simp
      try with_reducible rfl
     try simp only [Act.put, au, av, ax]
     refine af.take (i := 7) (v := ?BW) rfl (by kernel_rfl) (fun _ _ _ h => h) (by rfl) (fun w hSw => ?nQ) hS ?BX
     case nQ =>
      (try dsimp only at hSw)
      go_simp
      try with_reducible rfl
     try simp only [Act.put, au, av, ax]
     refine af.step (i := 8) rfl (by kernel_rfl) (fun K' hK => ?_)
     go_simp
     refine HST.out.mono ?_
     rintro e w2 ⟨rfl, hu⟩
     refine hK.out _ _ (aJ (by kernel_rfl)) (fun hS => ?_)
     try simp only [au, av, ax]
     refine af.step (i := 9) rfl (by kernel_rfl) (fun K' hK => ?_)
     go_simp
     refine hK.out _ _ (aJ (by kernel_rfl)) (fun hS => ?_)
     refine af.done (by kernel_rfl) ?_
     have HI2 : Hid (Up w w2 ∧ ∀ j, j < k + 1 → gt a j = gt b j) := ⟨HIK2.out.1.trans hu, HIK2.out.2⟩
     clear hu
     go_wp2_with fail
     go_roundw
     case rel => exact ⟨k + 1, by omega, by go_num, HI2.out⟩
     case measure => simp [intOf]; omega
    ·have d9 : decide (x = y) = false := decide_eq_false e
     rw [d9] at HST
     have HF := aa (uX.out e)
     clear e d9 uX xg
     go_wp2_with fail
     refine dM (by kernel_rfl) 9 (fun w' => w'.cell? ⟨ab, ao + k * 2, none⟩ = some (.slice pp x.ps.length pc) ∧ w'.cell? ⟨ab, ao + k * 2 + 1, none⟩ = some (.slice np x.ns.length nc) ∧ w'.cell? ⟨bb, bo + k * 2, none⟩ = some (.slice nR y.ps.length nS) ∧ w'.cell? ⟨bb, bo + k * 2 + 1, none⟩ = some (.slice nT y.ns.length nU)) ⟨c0, c1, d0, d1⟩ (fun hS => ?_)
     simp only [List.size_toArray, List.length_cons, List.length_nil, Nat.reduceAdd, Array.replicate_succ, Array.replicate_zero, List.push_toArray, List.nil_append, List.cons_append]
     refine af.take (i := 0) (v := ?gv0k2) rfl (by kernel_rfl) (fun _ _ _ h => h) (by rfl) (fun w hSw => ?MR) hS ?gr0k2
     case MR =>
      (try dsimp only at hSw)
      go_simp
      try with_reducible rfl
     try simp only [Act.put, au, av, ax]
     refine af.take (i := 1) (v := ?gv1k2) rfl (by kernel_rfl) (fun _ _ _ h => h) (by rfl) (fun w hSw => ?MS) hS ?gr1k2
     case MS =>
      (try dsimp only at hSw)
      go_simp
      try with_reducible rfl
     try simp only [Act.put, au, av, ax]
     refine af.take (i := 2) (v := ?gv2k2) rfl (by kernel_rfl) (fun _ _ _ h => h) (by rfl) (fun w hSw => ?MT) hS ?gr2k2
     case MT =>
      (try dsimp only at hSw)
      go_simp
      try with_reducible rfl
     try simp only [Act.put, au, av, ax]
     refine af.take (i := 3) (v := ?gv3k2) rfl (by kernel_rfl) (fun _ _ _ h => h) (by rfl) (fun w hSw => ?MU) hS ?gr3k2
     case MU =>
      (try dsimp only at hSw)
      go_simp
      try with_reducible rfl
     try simp only [Act.put, au, av, ax]
     refine af.take (i := 4) (v := ?gv4k2) rfl (by kernel_rfl) (fun _ _ _ h => h) (by rfl) (fun w hSw => ?MV) hS ?gr4k2
     case MV =>
      (try dsimp only at hSw)
      go_simp
      try with_reducible rfl
     try simp only [Act.put, au, av, ax]
     refine af.take (i := 5) (v := ?gv5k2) rfl (by kernel_rfl) (fun _ _ _ h => h) (by rfl) (fun w hSw => ?MW) hS ?gr5k2
     case MW =>
      (try dsimp only at hSw)
      go_simp
      try with_reducible rfl
     try simp only [Act.put, au, av, ax]
     refine af.take (i := 6) (v := ?gv6k2) rfl (by kernel_rfl) (fun _ _ _ h => h) (by rfl) (fun w hSw => ?MX) hS ?gr6k2
     case MX =>
      (try dsimp only at hSw)
      go_simp
      try with_reducible rfl
     try simp only [Act.put, au, av, ax]
     refine af.take (i := 7) (v := ?gv7k2) rfl (by kernel_rfl) (fun _ _ _ h => h) (by rfl) (fun w hSw => ?gy7k2) hS ?gr7k2
     case gy7k2 =>
      (try dsimp only at hSw)
      go_simp
      try with_reducible rfl
     try simp only [Act.put, au, av, ax]
     refine af.step (i := 8) rfl (by kernel_rfl) (fun K' hK => ?_)
     go_simp
     refine HST.out.mono ?_
     rintro e w2 ⟨rfl, hu⟩
     refine hK.out _ _ (aJ (by kernel_rfl)) (fun hS => ?_)
     try simp only [au, av, ax]
     refine af.step (i := 9) rfl (by kernel_rfl) (fun K' hK => ?_)
     go_simp
     refine hK.out _ _ (aJ (by kernel_rfl)) (fun hS => ?_)
     refine af.done (by kernel_rfl) ?_
     have bw := aa (vk.out.trans hu)
     clear hu
     go_wp2_with fail
     go_ret
     exact ⟨aL HF.out.symm, bw.out⟩
   ·obtain rfl : k = a.length := by omega
    have HF : Hid (decide (a = b) = true) := decide_eq_true (HS.out.2 hI.out.2)
    go_wp2_with fail
    go_ret
    exact ⟨aL HF.out.symm, hI.out.1⟩
 ·have HF : Hid (decide (a = b) = false) := decide_eq_false fun e => hl (by rw [e])
  have fA : ((a.length : Int) != (b.length : Int)) = true := by simp; omega
  clear hl
  go_enter Tryz.func44, Tryz.ntmps44
  go_wp2_with fail
  go_ret
  exact ⟨aL HF.out.symm, Up.refl _⟩
end
end Go.Proofs.YthgabkgmkolobaaGreat
