/- optimaltree.Score. Layer 34's law: named, fine. The walk of OptimaltreeTrees. .. -/
import Derived.Shelf.Abstract
import Derived.Test.YthgabkgmkolobaaGreatProg
import Derived.WalkKit
import Derived.WalkSpells
import Derived.WalkLawsBesides
import Derived.Deep.OwnRows
import Derived.Deep.QuietTactic
import Derived.BigQuiet
import Derived.Lib.Hide
import Derived.Shelf.Small.Strs
import Derived.RangeFuncNested
import Derived.RangeFuncBound
import Derived.RangeFuncCalls
import Derived.RangeFuncLeaves
import Derived.Shelf.RegionOpen
import Derived.OwnWalkIn
import Derived.TacticsInMore
import Derived.LoopNIn
import Derived.LoopIn
import Derived.Sort.QuietIn
import Derived.Stop.RegionWithIn
import Derived.Maps.AppendAt
import Derived.Deep.AppendLies
import Derived.Deep.CutRange
import Derived.Laws.Bits64b
import Derived.Laws.BitsAllLaws
import Derived.Deep.RegionHeld3
import Derived.OrdersHeld
import Derived.Deep.RegionHeld
import Derived.StillTailTactics
import Derived.Lib.SliceRun
import Derived.RangeFuncWrites
import Derived.RangeFuncKeeps
import Derived.Laws.EntriesVeiled
import Derived.Sort.OwnSorted
import Derived.Lib.Bytealg
import Derived.Sort.Statements
import Derived.MapKept
import Derived.Laws.Pointers
import Derived.Shelf.SlGeneric
import Derived.Shelf.SlSortCmp.NoneTotal
import Derived.OrdersIn
import Derived.StillTail
import Derived.Shelf.SortM.Plain
import Derived.Shelf.SortM.SortNone
import Derived.Sort.OwnSortedInts
import Derived.Shelf.SlLaysM
import Derived.Ground.SlgmProg
import Derived.Shelf.Slices.In.SortNone
import Derived.Shelf.Lays
import Derived.Shelf.Sort.Plain
import Derived.Ground.NamesProg
import Derived.Lib.IndexAny
import Derived.Lib.OthersKept
import Derived.Shelf.Strings.IndexAnyAll
import Derived.Ground.Names2Prog
import Derived.Lib.MinMax
import Derived.Shelf.Strings.BuilderK
import Derived.Laws.RangeAny
import Derived.WalkMore
import Derived.Shelf.Small.Utf8
import Derived.Maps.OwnIn
import Derived.Shelf.Slices.Empties
import Derived.Shelf.Slices.SearchI
import Derived.Deep.RegionWith
import Derived.Laws.CopyOwn
import Derived.Deep.RegionLaw
import Derived.RegionTactic
import Derived.Shelf.Bits.Mul64
import Derived.Test.YthgabkgmkolobaaGreatQ39
import Derived.Test.YthgabkgmkolobaaGreatQ38
import Derived.Test.YthgabkgmkolobaaGreatQ36
import Derived.Test.YthgabkgmkolobaaGreatQ34
import Derived.Test.YthgabkgmkolobaaGreatQ33
import Derived.Test.YthgabkgmkolobaaGreatQ51
import Derived.Test.YthgabkgmkolobaaGreatQ15
import Derived.Test.YthgabkgmkolobaaGreatQ3
import Derived.Test.YthgabkgmkolobaaGreatQ2
import Derived.Test.YthgabkgmkolobaaGreatQ1
import Derived.Test.YthgabkgmkolobaaGreatQ49
import Derived.Test.YthgabkgmkolobaaGreatQ6
import Derived.Test.YthgabkgmkolobaaGreatQ5
import Derived.Test.YthgabkgmkolobaaGreatQ4
import Derived.Test.YthgabkgmkolobaaGreatQ21
import Derived.Test.YthgabkgmkolobaaGreatQ50
import Derived.Test.YthgabkgmkolobaaGreatQ19
import Derived.Test.YthgabkgmkolobaaGreatQ17
import Derived.Test.YthgabkgmkolobaaGreatQ16
import Derived.Test.YthgabkgmkolobaaGreatQ9
import Derived.Test.YthgabkgmkolobaaGreatQ7
import Derived.Test.YthgabkgmkolobaaGreatQ8
import Derived.Test.YthgabkgmkolobaaGreatQ24
import Derived.Test.YthgabkgmkolobaaGreatQ22
import Derived.Test.YthgabkgmkolobaaGreatQ14
import Derived.Test.YthgabkgmkolobaaGreatQ13
import Derived.Test.YthgabkgmkolobaaGreatQ12
import Derived.Test.YthgabkgmkolobaaGreatQ10
import Derived.Test.YthgabkgmkolobaaGreatQ11
import Derived.Test.YthgabkgmkolobaaGreatQ29
import Derived.Test.YthgabkgmkolobaaGreatQ23
import Derived.Test.YthgabkgmkolobaaGreatQ26
import Derived.Test.YthgabkgmkolobaaGreatQ25
import Derived.Test.YthgabkgmkolobaaGreatQ27
import Derived.Test.YthgabkgmkolobaaGreatQ28
import Derived.Test.YthgabkgmkolobaaGreatQ30
import Derived.Test.YthgabkgmkolobaaGreatQ32
import Derived.Shelf.SlSortCmp.WholeK
import Derived.Ground.SlsfProg
import Derived.ArgAppend
import Derived.Test.YthgabkgmkolobaaGreatQ45
import Derived.Test.YthgabkgmkolobaaGreatQ42
import Derived.Test.YthgabkgmkolobaaGreatQ43
import Derived.Test.YthgabkgmkolobaaGreatQ40
import Derived.Test.YthgabkgmkolobaaGreatQ31
import Derived.Test.YthgabkgmkolobaaGreatQ41
import Derived.Test.YthgabkgmkolobaaGreatQ37
import Derived.Test.YthgabkgmkolobaaGreatQ35
import Derived.Test.YthgabkgmkolobaaGreatQ20
import Derived.Test.YthgabkgmkolobaaGreatQ18
import Derived.Shelf.Lays2
import Derived.Shelf.Slices.CompactI
import Derived.Test.YthgabkgmkolobaaGreatQ44
set_option maxRecDepth 100000
namespace Go.Proofs.YthgabkgmkolobaaGreat
section
open Go.RowKit Go.Deep
def qm (w : World) (t : ay) (names : List ByteArray) (states : List (List Int)) (e : Ending) (w' : World) : Prop := Up w w' ∧ e = .returned (.tuple #[.int .i64 (vv t names states), .int .i64 (jq t names states)])
set_option maxHeartbeats 2000000 in
theorem NC (S : Nat → Prop) (w : World) (v vn vs : Value) (t : ay) (names : List ByteArray) (states : List (List Int)) (hT : aA S w v t) (hp : t.ps.length ≤ 1000000) (hnt : t.ns.length ≤ 1000000) (hz : ∀ k, (gs t.ns k).size ≤ 70000) (h : ah S w vn names) (hn : names.length ≤ 1000000) (Lf : ∀ k, (gs names k).size ≤ 70000) (hS : aU S w vs states) (pY : states.length ≤ 1000000) (hr : ∀ k, (gl states k).length ≤ 1000000) (h5 : names.length ≤ 5 ∨ 7 < names.length) :
  Calls Tryz.prog 21 #[v, vn, vs] w (qm w t names states) := by
 have HZ := aa hz
 obtain ⟨P, N, rfl, hP, hN⟩ := hT
 obtain ⟨np, nc, rfl, -, -⟩ := aB.open hN
 have hN : ah S w (.slice np t.ns.length nc) t.ns := hN
 obtain ⟨pp, pc, rfl, -, -⟩ := aB.open hP
 have hP : aq S w (.slice pp t.ps.length pc) t.ps := hP
 obtain ⟨mp, mc, rfl, -, -⟩ := aB.open h
 have h : ah S w (.slice mp names.length mc) names := h
 obtain ⟨sp, sc, rfl, -, -⟩ := eR hS
 have mz : Up w (w.alloc (.cells #[.slice pp t.ps.length pc, .slice np t.ns.length nc] 39)) := Up.alloc _ _
 have hrb := fh (w := w) (P := .slice pp t.ps.length pc) (N := .slice np t.ns.length nc) (T := 39)
 obtain ⟨q0, q1, -, -⟩ := boxed hrb
 have HT : Hid (aA S (w.alloc (.cells #[.slice pp t.ps.length pc, .slice np t.ns.length nc] 39)) (.agg #[.slice pp t.ps.length pc, .slice np t.ns.length nc]) t) := ⟨_, _, rfl, aq.keep hP (mz.kept S), ah.keep hN (mz.kept S)⟩
 have HN := aa (ah.keep h (mz.kept S))
 have HS := aa (aU.keep hS (mz.kept S))
 have eY := aa (EZ S _ _ _ names states HN.out hn Lf HS.out pY hr)
 have nY := aa mz
 have HE : Hid (jq t names states = if cI names states ≠ 0 then cI names states else if az t ≠ 0 then 1 else if kZ t names then 0 else 9) := rfl
 have HR : Hid (vv t names states = if jq t names states = 0 then bG t names states else 0) := rfl
 have zX : Hid (cI names states = 0 → k6 names states) := wD h5
 clear hP hN h hS hz Lf hr h5 hrb mz
 go_enter Tryz.func21, Tryz.ntmps21
 go_wp2_with fail
 generalize w.alloc (.cells #[.slice pp t.ps.length pc, .slice np t.ns.length nc] 39) = w0 at *
 refine eY.out.mono ?_
 rintro e w1 ⟨rfl, aR⟩
 have ND := nY.out.trans aR
 replace q0 := aR.cell q0
 replace q1 := aR.cell q1
 by_cases c1 : cI names states = 0
 ·have HC := aa (zX.out c1)
  have G5 := aa (qZ S w1 _ t (HT.out.keep (aR.kept S)) hp hnt HZ.out)
  have tI : Hid (jq t names states = if az t ≠ 0 then 1 else if kZ t names then 0 else 9) := by unfold Hid; rw [HE.out, if_neg (by omega)]
  have bH := aa aR
  have HU01 := aa ND
  rw [c1]
  clear aR ND c1 HE eY zX
  go_wp2_with fail
  refine G5.out.mono ?_
  rintro e w2 ⟨rfl, hb⟩
  have aG : Up w1 w2 := hb
  replace q0 := aG.cell q0
  replace q1 := aG.cell q1
  have HU02 := aa (HU01.out.trans aG)
  by_cases c2 : az t = 0
  ·have bw := aa (bH.out.trans aG)
   have yS := aa (E7 S w2 _ _ _ t names states (HT.out.keep (bw.out.kept S)) c2 HZ.out (ah.keep HN.out (bw.out.kept S)) (aU.keep HS.out (bw.out.kept S)) HC.out)
   have HX : Hid (pU t names states = .tuple #[.int .i64 (vv t names states), .int .i64 (jq t names states)]) := by
    unfold Hid pU
    have e9 : jq t names states = if kZ t names then 0 else 9 := by rw [tI.out, if_neg fun e : az t ≠ 0 => e c2]
    rw [HR.out, e9]
    cases kZ t names <;> simp
   have ey : Hid (∀ W, Up w W → qm w t names states (.returned (.tuple #[.int .i64 (vv t names states), .int .i64 (jq t names states)])) W) := fun W hW => ⟨hW, rfl⟩
   rw [c2]
   clear hb aG c2 G5
   rw [HX.out] at yS
   generalize vv t names states = a at *
   generalize jq t names states = c at *
   go_wp2_with fail
   refine yS.out.mono ?_
   rintro e w3 ⟨rfl, bX⟩
   have dc := aa (ey.out _ (HU02.out.trans bX))
   clear bX yS
   go_wp2_with fail
   go_ret2
   exact dc.out
  ·have ey : Hid (qm w t names states (.returned (.tuple #[.int .i64 0, .int .i64 1])) w2) := by
    refine ⟨HU02.out, ?_⟩
    have e1 : jq t names states = 1 := by rw [tI.out, if_pos c2]
    rw [HR.out, e1]; rfl
   generalize az t = a at *
   clear hb aG G5
   go_wp2_with fail
   go_ret2
   exact ey.out
 ·have ey : Hid (qm w t names states (.returned (.tuple #[.int .i64 0, .int .i64 (cI names states)])) w1) := by
   refine ⟨ND, ?_⟩
   have e1 : jq t names states = cI names states := by rw [HE.out, if_pos c1]
   rw [HR.out, e1, if_neg c1]
  generalize cI names states = a at *
  clear aR ND eY
  go_wp2_with fail
  go_ret2
  exact ey.out
end
section
open Go.RowKit Go.Deep
def jr (names : List ByteArray) (states : List (List Int)) : Bool := qy names && !gZ names states && decide (cn states = 0) && decide (states.length = names.length) && decide ((gl states 0).length ≤ 6)
structure Q2 (names : List ByteArray) (states : List (List Int)) : Prop where
 cs : k6 names states
 wd : (gl states 0).length ≤ 6
theorem Q3 {names : List ByteArray} {states : List (List Int)} (h : jr names states = true) : Q2 names states := by
 unfold jr at h
 simp only [Bool.and_eq_true, decide_eq_true_eq] at h
 obtain ⟨⟨⟨⟨h1, _⟩, h3⟩, h4⟩, h5⟩ := h
 exact ⟨⟨Qz h1, h3, h4⟩, h5⟩
set_option maxHeartbeats 2000000 in
theorem TJ (S T : Nat → Prop) (w : World) (v vs : Value) (names : List ByteArray) (states : List (List Int)) (h : ah S w v names) (hS : aU T w vs states) (hn : names.length ≤ 9223372036854775807) (hz : ∀ k, (gs names k).size ≤ 9223372036854775807) (hm : states.length ≤ 9223372036854775807) (hr : ∀ k, (gl states k).length ≤ 9223372036854775807) :
  Calls Tryz.prog 38 #[v, vs] w fun e w' => e = .returned (.bool (jr names states)) ∧ Up w w' := by
 obtain ⟨p, cap, rfl, hcap, -⟩ := aB.open h
 have h : ah S w (.slice p names.length cap) names := h
 obtain ⟨sp, sc, rfl, -, -⟩ := eR hS
 have fS := aa (Fe S w _ names h hn hz)
 have tB : Hid (∀ W, Up w W → Calls Tryz.prog 59 #[.slice p names.length cap, .slice sp states.length sc] W fun e w' => e = .returned (.bool (gZ names states)) ∧ W = w') := fun W hW => Fa S T W _ _ names states (ah.keep h (hW.kept _)) (aU.keep hS (hW.kept _)) hn hz hm hr
 have eY : Hid (gZ names states = false → ∀ W, Up w W → Calls Tryz.prog 60 #[.slice sp states.length sc] W fun e w' => e = .returned (.int .i64 (cn states)) ∧ QD W w') := fun hg W hW => Nx T W _ states (aU.keep hS (hW.kept _)) (by have := (Dz hg).m10; omega) (fun k => by have := (Dz hg).le10.2.1 k; omega)
 have HB : Hid (jr names states = (qy names && !gZ names states && decide (cn states = 0) && decide (states.length = names.length) && decide ((gl states 0).length ≤ 6))) := rfl
 have HS := aa hS
 have uY : Hid (cn states = 0 → 0 < states.length) := fun h => (Cl h).1
 clear h hS hz hr
 go_enter Tryz.func38, Tryz.ntmps38
 go_wp2_with fail
 refine fS.out.mono ?_
 rintro e w1 ⟨rfl, aR⟩
 have bH := aa aR
 have HGR1 := aa (tB.out w1 aR)
 have HCK1 := aa (fun hg => eY.out hg w1 aR)
 have jT := aa (aU.keep HS.out (aR.kept T))
 clear aR fS tB eY HS
 cases hb : qy names
 ·have lX : Hid (jr names states = false) := by unfold Hid; rw [HB.out, hb]; rfl
  clear hb
  go_wp2_with fail
  all_goals (go_ret; exact ⟨aL lX.out.symm, bH.out⟩)
 ·rw [hb] at HB
  clear hb
  go_wp2_with fail
  refine HGR1.out.mono ?_
  rintro e w2 ⟨rfl, rfl⟩
  cases hg : gZ names states
  ·have HCK2 := aa (HCK1.out hg)
   rw [hg] at HB
   clear hg HGR1 HCK1
   go_wp2_with fail
   refine HCK2.out.mono ?_
   rintro e w3 ⟨rfl, hq⟩
   have dc := aa (bH.out.trans hq.up)
   have E4 := aa (aU.keep jT.out (hq.up.kept T))
   clear hq HCK2 jT
   by_cases ha : cn states = 0
   ·have h0 := uY.out ha
    obtain ⟨sb, so, s0, s1, rfl, hc0, -⟩ := iL E4.out h0
    rw [Nat.add_zero] at hc0
    rw [ha] at HB ⊢
    clear ha uY
    have i1 : (0 : Int) < (states.length : Int) := by omega
    by_cases hl : states.length = names.length
    ·have lX : Hid (jr names states = decide ((gl states 0).length ≤ 6)) := by unfold Hid; rw [HB.out]; simp [hl]
     have d1 : ((states.length : Int) == (names.length : Int)) = true := by simp [hl]
     clear HB hl
     generalize (gl states 0).length = m at *
     go_wp2_with fail
     all_goals (go_ret; exact ⟨aL (by rw [lX.out]; first | done | (simp; omega) | (simp; done)), dc.out⟩)
    ·have lX : Hid (jr names states = false) := by unfold Hid; rw [HB.out]; simp [hl]
     have d1 : ((states.length : Int) == (names.length : Int)) = false := by simp; omega
     clear HB hl
     go_wp2_with fail
     all_goals (go_ret; exact ⟨aL lX.out.symm, dc.out⟩)
   ·have lX : Hid (jr names states = false) := by unfold Hid; rw [HB.out]; simp [ha]
    generalize cn states = a at *
    have d1 : (a == 0) = false := by simp [ha]
    clear HB uY
    go_wp2_with fail
    all_goals (go_ret; exact ⟨aL lX.out.symm, dc.out⟩)
  ·have lX : Hid (jr names states = false) := by unfold Hid; rw [HB.out, hg]; rfl
   clear hg
   go_wp2_with fail
   all_goals (go_ret; exact ⟨aL lX.out.symm, bH.out⟩)
end
section
open Go.RowKit Go.Deep
theorem JU {ts : List ay} (h : ∀ t ∈ ts, t.ps.length ≤ 1000000 ∧ t.ns.length ≤ 1000000) (k : Nat) : (gt ts k).ps.length ≤ 1000000 ∧ (gt ts k).ns.length ≤ 1000000 := by
 by_cases hk : k < ts.length
 ·exact h _ (sD hk)
 ·have : gt ts k = ⟨[], []⟩ := by simp [gt, hk]
  rw [this]; exact ⟨Nat.zero_le _, Nat.zero_le _⟩
end
section
open Go.RowKit Go.Deep
set_option maxHeartbeats 1000000 in
theorem TK (S T : Nat → Prop) (w : World) (v u : Value) (t q : ay) (h : aA S w v t) (h2 : aA T w u q) (hp : t.ps.length ≤ 1000000) (hn : t.ns.length ≤ 1000000) (hp2 : q.ps.length ≤ 1000000) (hn2 : q.ns.length ≤ 1000000) :
  Calls Tryz.prog 107 #[v, u] w fun e w' => e = .returned (.bool (decide (t = q))) ∧ Up w w' := by
 obtain ⟨P, N, rfl, hP, hN⟩ := h
 obtain ⟨np, nc, rfl, -, -⟩ := aB.open hN
 have hN : ah S w (.slice np t.ns.length nc) t.ns := hN
 obtain ⟨pp, pc, rfl, -, -⟩ := aB.open hP
 have hP : aq S w (.slice pp t.ps.length pc) t.ps := hP
 obtain ⟨P, N, rfl, fP, fQ⟩ := h2
 obtain ⟨nq, nd, rfl, -, -⟩ := aB.open fQ
 have fQ : ah T w (.slice nq q.ns.length nd) q.ns := fQ
 obtain ⟨pq, pd, rfl, -, -⟩ := aB.open fP
 have fP : aq T w (.slice pq q.ps.length pd) q.ps := fP
 have aR := (Up.alloc w (.cells #[.slice pp t.ps.length pc, .slice np t.ns.length nc] 39)).trans (Up.alloc _ (.cells #[.slice pq q.ps.length pd, .slice nq q.ns.length nd] 39))
 have HU := aa aR
 have NX := aa (KA S T _ _ _ _ _ (aq.keep hP (aR.kept S)) (aq.keep fP (aR.kept T)) hp hp2)
 have tI := aa (fun W (hW : Up _ W) => KC S T W _ _ _ _ (ah.keep hN ((aR.trans hW).kept S)) (ah.keep fQ ((aR.trans hW).kept T)) hn hn2)
 have HD : Hid (decide (t = q) = (decide (t.ps = q.ps) && decide (t.ns = q.ns))) := by
  unfold Hid
  obtain ⟨a, b⟩ := t
  obtain ⟨c, d⟩ := q
  by_cases e : a = c
  ·subst e
   by_cases e2 : b = d
   ·subst e2; simp
   ·rw [decide_eq_false fun h => e2 (congrArg ay.ns h), decide_eq_false e2]; simp
  ·rw [decide_eq_false fun h => e (congrArg ay.ps h), decide_eq_false e]; simp
 have hb0 := fh (w := w) (P := .slice pp t.ps.length pc) (N := .slice np t.ns.length nc) (T := 39)
 have hb1 := fh (w := w.alloc (.cells #[.slice pp t.ps.length pc, .slice np t.ns.length nc] 39)) (P := .slice pq q.ps.length pd) (N := .slice nq q.ns.length nd) (T := 39)
 obtain ⟨-, q1, -, -⟩ := boxed hb0
 obtain ⟨-, r1, -, -⟩ := boxed hb1
 replace q1 := (Up.alloc _ (.cells #[.slice pq q.ps.length pd, .slice nq q.ns.length nd] 39)).cell q1
 rw [World.size_alloc] at r1
 have HQR := aa (And.intro q1 r1)
 clear hP hN fP fQ aR hb0 hb1 q1 r1
 go_enter Tryz.func107, Tryz.ntmps107
 go_wp2_with fail
 generalize (w.alloc (.cells #[.slice pp t.ps.length pc, .slice np t.ns.length nc] 39)).alloc (.cells #[.slice pq q.ps.length pd, .slice nq q.ns.length nd] 39) = w1 at *
 refine NX.out.mono ?_
 rintro e w2 ⟨rfl, hq⟩
 have aG : Up w1 w2 := QD.up hq
 have HE3 := aa (tI.out w2 aG)
 have bw := aa (HU.out.trans aG)
 have q1 := aG.cell HQR.out.1
 have r1 := aG.cell HQR.out.2
 clear hq aG NX tI HQR
 generalize decide (t.ps = q.ps) = b1 at *
 generalize decide (t.ns = q.ns) = b2 at *
 cases b1
 ·have HX : Hid (decide (t = q) = false) := by unfold Hid; rw [HD.out]; rfl
  go_wp2_with fail
  go_ret
  exact ⟨aL HX.out.symm, bw.out⟩
 ·have HX : Hid (decide (t = q) = b2) := by unfold Hid; rw [HD.out]; rfl
  go_wp2_with fail
  refine HE3.out.mono ?_
  rintro e w3 ⟨rfl, hq⟩
  have dc := aa (bw.out.trans (QD.up hq))
  clear hq HE3
  go_wp2_with fail
  go_ret
  exact ⟨aL HX.out.symm, dc.out⟩
end
section
def cnN (ns : List ByteArray) : Nat → Nat
 | 0 => 0
 | k + 1 => cnN ns k + if (gs ns k).size ≠ 0 then 1 else 0
theorem JV (ns : List ByteArray) : ∀ {j k : Nat}, j ≤ k → cnN ns j ≤ cnN ns k
  | j, 0, h => by obtain rfl : j = 0 := by omega
                  exact Nat.le_refl _
  | j, k + 1, h => by
    by_cases e : j = k + 1
    · subst e; exact Nat.le_refl _
    · have := JV ns (j := j) (k := k) (by omega)
      rw [cnN]; omega
theorem CL {ns : List ByteArray} {j k : Nat} (h : j < k) (hj : (gs ns j).size ≠ 0) : cnN ns j < cnN ns k := by
 have h1 := JV ns (show j + 1 ≤ k by omega)
 rw [cnN, if_pos hj] at h1; omega
theorem W8 {ns : List ByteArray} {j k : Nat} (hj : (gs ns j).size ≠ 0) (hk : (gs ns k).size ≠ 0) (h : cnN ns j = cnN ns k) : j = k := by
 rcases Nat.lt_trichotomy j k with c | c | c
 ·have := CL c hj; omega
 ·exact c
 ·have := CL c hk; omega
theorem ni (ns : List ByteArray) : ∀ k, ((List.range k).filter fun i => decide ((gs ns i).size ≠ 0)).length = cnN ns k
 | 0 => rfl
 | k + 1 => by
  rw [List.range_succ, List.filter_append, List.length_append, ni ns k, cnN]
  congr 1
  by_cases c : (gs ns k).size ≠ 0
  ·rw [if_pos c, List.filter_cons_of_pos (by simpa using c)]; rfl
  ·rw [if_neg c, List.filter_cons_of_neg (by simpa using c)]; rfl
theorem JW {a b : List ByteArray} : ∀ {k : Nat}, (∀ j, j < k → ((gs a j).size ≠ 0 ↔ (gs b j).size ≠ 0)) → cnN a k = cnN b k
 | 0, _ => rfl
 | k + 1, h => by
  rw [cnN, cnN, JW fun j hj => h j (by omega)]
  congr 1
  by_cases c : (gs b k).size ≠ 0
  ·rw [if_pos c, if_pos ((h k (by omega)).2 c)]
  ·rw [if_neg c, if_neg fun q => c ((h k (by omega)).1 q)]

def L4 (names ns : List ByteArray) (i : Nat) : ByteArray := if (gs ns i).size ≠ 0 then gs names (cnN ns i) else gs ns i
def oz (t : ay) (names : List ByteArray) : ay := ⟨t.ps, (List.range t.ns.length).map (L4 names t.ns)⟩
def Q4 (names ns : List ByteArray) (n i : Nat) : ByteArray := if (gs ns i).size ≠ 0 ∧ cnN ns i < n then gs names (cnN ns i) else gs ns i
def lz (names ns : List ByteArray) (n : Nat) : List ByteArray := (List.range ns.length).map (Q4 names ns n)
theorem rz (names ns : List ByteArray) (n : Nat) : (lz names ns n).length = ns.length := by simp [lz]
theorem Q5 {names ns : List ByteArray} {n i : Nat} (hi : i < ns.length) : gs (lz names ns n) i = Q4 names ns n i := by simp [lz, gs, hi]
theorem TM (names ns : List ByteArray) : lz names ns 0 = ns := by
 apply List.ext_getElem
 ·simp [lz]
 ·intro i h1 h2
  simp [lz, Q4, gs, h2]
theorem lv_cn {ns : List ByteArray} {n : Nat} (h : n < (aj ns).length) : ∃ k : Nat, gi (aj ns) n = k ∧ k < ns.length ∧ (gs ns k).size ≠ 0 ∧ cnN ns k = n := by
 have hl : (aj ns).length = cnN ns ns.length := by
  have : aj ns = dx ns ns.length := rfl
  rw [this]; unfold dx
  rw [List.length_map]
  exact ni ns ns.length
 have key : ∀ m, m ≤ ns.length → ∀ n, n < (dx ns m).length → ∃ k : Nat, gi (dx ns m) n = k ∧ k < m ∧ (gs ns k).size ≠ 0 ∧ cnN ns k = n := fun m => by
  induction m with
  | zero => intro _ n hn; simp [dx] at hn
  | succ m ih =>
   intro hm n hn
   have hlm : (dx ns m).length = cnN ns m := by
    unfold dx; rw [List.length_map]; exact ni ns m
   rw [xF] at hn ⊢
   by_cases e : (gs ns m).size = 0
   ·rw [if_pos e, List.append_nil] at hn ⊢
    obtain ⟨k, h1, h2, h3⟩ := ih (by omega) n hn
    exact ⟨k, h1, by omega, h3⟩
   ·rw [if_neg e] at hn ⊢
    rw [List.length_append, List.length_singleton] at hn
    by_cases hn2 : n < (dx ns m).length
    ·obtain ⟨k, h1, h2, h3⟩ := ih (by omega) n hn2
     refine ⟨k, ?_, by omega, h3⟩
     rw [tP, if_pos hn2]; exact h1
    ·have : n = (dx ns m).length := by omega
     subst this
     refine ⟨m, ?_, by omega, e, hlm.symm⟩
     rw [tP, if_neg (Nat.lt_irrefl _)]; simp
 exact key ns.length (Nat.le_refl _) n h
theorem W9 {names ns : List ByteArray} {n k : Nat} (hk : k < ns.length) (h0 : (gs ns k).size ≠ 0) (hc : cnN ns k = n) : ∀ i, i < ns.length → gs (lz names ns (n + 1)) i = if i = k then gs names n else gs (lz names ns n) i := fun i hi => by
 rw [Q5 hi, Q5 hi]
 unfold Q4
 by_cases e : i = k
 ·subst e
  rw [if_pos ⟨h0, by omega⟩, if_pos rfl, hc]
 ·rw [if_neg e]
  by_cases h1 : (gs ns i).size ≠ 0
  ·have hne : cnN ns i ≠ n := fun q => e (W8 h1 h0 (q.trans hc.symm))
   by_cases h2 : cnN ns i < n
   ·rw [if_pos ⟨h1, by omega⟩, if_pos ⟨h1, h2⟩]
   ·rw [if_neg fun q => by omega, if_neg fun q => h2 q.2]
  ·rw [if_neg fun q => h1 q.1, if_neg fun q => h1 q.1]
section
variable {t : ay} {names : List ByteArray}
theorem y8 : (oz t names).ns.length = t.ns.length := by simp [oz]
theorem NF {i : Nat} (hi : i < t.ns.length) : gs (oz t names).ns i = L4 names t.ns i := by simp [oz, gs, hi]
theorem y9 {i : Nat} (hi : i < t.ns.length) (h : (gs t.ns i).size ≠ 0) (hl : (aj t.ns).length = names.length) : cnN t.ns i < names.length := by
 have h1 := CL hi h
 have : (aj t.ns).length = cnN t.ns t.ns.length := by
  show (dx t.ns t.ns.length).length = _
  unfold dx; rw [List.length_map]; exact ni t.ns t.ns.length
 omega
theorem Xa (hl : (aj t.ns).length = names.length) : (⟨t.ps, lz names t.ns names.length⟩ : ay) = oz t names := by
 unfold oz lz
 congr 1
 refine List.map_congr_left fun i hi => ?_
 have hi := List.mem_range.1 hi
 unfold Q4 L4
 by_cases h : (gs t.ns i).size ≠ 0
 ·rw [if_pos ⟨h, y9 hi h hl⟩, if_pos h]
 ·rw [if_neg fun q => h q.1, if_neg h]
theorem NG (hn : cH names) {b : Nat} (hb : b < names.length) : aY (gs names b).data.toList = true := by
 have : gs names b ∈ names := by simp [gs, hb]
 exact hn.nm _ this
theorem vw (hn : cH names) (hl : (aj t.ns).length = names.length) {i : Nat} : (gs (oz t names).ns i).size ≠ 0 ↔ i < t.ns.length ∧ (gs t.ns i).size ≠ 0 := by
 by_cases hi : i < t.ns.length
 ·rw [NF hi]
  unfold L4
  by_cases h : (gs t.ns i).size ≠ 0
  ·rw [if_pos h]; exact ⟨fun _ => ⟨hi, h⟩, fun _ => fL (NG hn (y9 hi h hl))⟩
  ·rw [if_neg h]; exact ⟨fun h2 => absurd h2 h, fun h2 => h2.2⟩
 ·have : gs (oz t names).ns i = ByteArray.empty := by unfold gs; rw [List.getD_eq_getElem?_getD, List.getElem?_eq_none (by rw [y8]; omega)]; rfl
  rw [this]
  exact ⟨fun h => absurd rfl h, fun h => absurd h.1 hi⟩
theorem FP {i : Nat} (hi : i < t.ns.length) (h : (gs t.ns i).size ≠ 0) : gs (oz t names).ns i = gs names (cnN t.ns i) := by
 rw [NF hi]; unfold L4; rw [if_pos h]
theorem rn_err (hn : cH names) (h : az t = 0) (iz : (aj t.ns).length = names.length) : az (oz t names) = 0 := by
 obtain ⟨hp, hp2, hl, hok, hne⟩ := aD h
 have h0' := h
 unfold az at h0' ⊢
 rw [show (oz t names).ps = t.ps from rfl, y8, if_neg (by omega), if_neg (by omega), if_neg (by omega), if_pos hok]
 refine dJ fun i hi => ?_
 have h1 := hne i hi
 have hin : i < t.ns.length := by omega
 unfold iu
 by_cases c : isIn t.ps i = true
 ·have h0 := AR h1 c
  rw [if_pos c, if_pos]
  exact Classical.byContradiction fun q => ((vw hn iz).1 q).2 h0
 ·have c : isIn t.ps i = false := by simpa using c
  have h0 := fL (Em h1 c).1
  have hc := y9 hin h0 iz
  rw [if_neg (by rw [c]; decide), FP hin h0, if_pos (NG hn hc), if_neg]
  intro q
  unfold dm at q
  obtain ⟨j, hj, e⟩ := List.any_eq_true.1 q
  have hj : j < i := List.mem_range.1 hj
  have e := of_decide_eq_true e
  rw [FP hin h0] at e
  have Zp : (gs (oz t names).ns j).size ≠ 0 := by rw [e]; exact fL (NG hn hc)
  obtain ⟨hj1, hj2⟩ := (vw hn iz).1 Zp
  rw [FP hj1 hj2] at e
  have um := y9 hj1 hj2 iz
  have hlt := CL hj hj2
  exact hn.IL _ _ hlt hc e.symm
theorem rn_of (hn : cH names) (h : az t = 0) (iz : (aj t.ns).length = names.length) : kW (oz t names) names := by
 obtain ⟨hp, hp2, hl, hok, hne⟩ := aD h
 refine ⟨rn_err hn h iz, by have := hn.hi; omega, hn.IL, ?_, fun j hj hj0 => ?_⟩
 ·rw [← iz]
  show (dx _ _).length = (dx _ _).length
  unfold dx
  rw [List.length_map, List.length_map, y8, ni, ni]
  exact JW fun j hj => ⟨fun h => ((vw hn iz).1 h).2, fun h => (vw hn iz).2 ⟨hj, h⟩⟩
 ·obtain ⟨h1, h2⟩ := (vw hn iz).1 hj0
  exact ⟨_, y9 h1 h2 iz, (FP h1 h2).symm⟩
end
end
section
open Go.RowKit Go.Deep
set_option maxHeartbeats 2000000 in
theorem JX (S T : Nat → Prop) (w : World) (v u : Value) (xs ys : List ay) (h : cD S w v xs) (h2 : cD T w u ys) (hn : xs.length ≤ 63) (hr : ∀ k, (gt xs k).ps.length ≤ 1000000 ∧ (gt xs k).ns.length ≤ 1000000) (hr2 : ∀ k, (gt ys k).ps.length ≤ 1000000 ∧ (gt ys k).ns.length ≤ 1000000) :
  Calls Tryz.prog 106 #[v, u, .func (.func 107) #[] #[]] w fun e w' => e = .returned (.bool (decide (xs = ys))) ∧ Up w w' := by
 obtain ⟨p, cap, rfl, hcap⟩ := gz h
 obtain ⟨q, dw, rfl, sX⟩ := gz h2
 have HX := aa h
 have HY := aa h2
 have HR := aa hr
 have yN := aa hr2
 clear h h2 hr hr2
 by_cases hl : xs.length = ys.length
 ·have fA : ((xs.length : Int) != ys.length) = false := by simp [hl]
  have HL := aa hl
  have Fg : Hid ((xs = ys) ↔ ∀ k, k < xs.length → gt xs k = gt ys k) := Cy hl
  clear hl
  go_enter Tryz.func106, Tryz.ntmps106
  go_wp2_with fail
  go_loopw [7, 8, 9, 17] (fun _ _ _ i wr => ∃ k : Nat, k ≤ xs.length ∧ i = .int .i64 k ∧ Hid (Up w wr) ∧ Hid (∀ j, j < k → gt xs j = gt ys j)) (fun _ _ _ i _ => xs.length - (intOf i).toNat)
  case atStart => exact ⟨0, Nat.zero_le _, rfl, Up.refl _, fun j hj => absurd hj (Nat.not_lt_zero _)⟩
  case round =>
   obtain ⟨k, hk, rfl, hQ, hd⟩ := hrel
   obtain ⟨wo, rfl⟩ : ∃ wo : World, wo = wr := ⟨_, rfl⟩
   by_cases hlt : k < xs.length
   ·have hlt2 : k < ys.length := by rw [← HL.out]; exact hlt
    obtain ⟨b, off, pp, pc, np, nc, rfl, c0, c1, hT⟩ := mY (HX.out.keep (hQ.out.kept S)) hlt
    obtain ⟨b2, off2, nR, nS, nT, nU, rfl, d0, d1, Cz⟩ := mY (HY.out.keep (hQ.out.kept T)) hlt2
    have aV := aa hlt
    have bf := (Up.alloc wo (.cells #[.slice pp (gt xs k).ps.length pc, .slice np (gt xs k).ns.length nc] 39)).trans (Up.alloc _ (.cells #[.slice nR (gt ys k).ps.length nS, .slice nT (gt ys k).ns.length nU] 39))
    have HS := aa (TK S T _ _ _ _ _ (hT.keep (bf.kept _)) (Cz.keep (bf.kept _)) (HR.out k).1 (HR.out k).2 (yN.out k).1 (yN.out k).2)
    have HUA := aa (hQ.out.trans bf)
    have aR := Up.alloc wo (.cells #[.slice pp (gt xs k).ps.length pc, .slice np (gt xs k).ns.length nc] 39)
    have d2 := aR.cell d0
    have d3 := aR.cell d1
    have xg : Hid (gt xs k = gt ys k → ∀ j, j < k + 1 → gt xs j = gt ys j) := fun e j hj => if ej : j = k then by subst ej; exact e else hd.out j (by omega)
    have uX : Hid (gt xs k ≠ gt ys k → decide (xs = ys) = false) := fun hne => decide_eq_false fun e => hne (by rw [e])
    have k0 : (0 : Int) ≤ (k : Int) := by omega
    have k1 : (k : Int) < (xs.length : Int) := by omega
    have k2 : (k : Int) < (ys.length : Int) := by omega
    have k3 : (k : Int) < 64 := by omega
    clear hT Cz bf hQ hd hlt aR
    generalize gt xs k = x at *
    generalize gt ys k = y at *
    by_cases hxy : x = y
    ·have hb : decide (x = y) = true := decide_eq_true hxy
     rw [hb] at HS
     have rG := aa (xg.out hxy)
     clear hxy hb uX xg
     go_wp2_with fail
     refine HS.out.mono ?_
     rintro e w' ⟨rfl, hu⟩
     have uM := aa (HUA.out.trans hu)
     clear hu
     go_wp2_with fail
     go_roundw
     case rel => exact ⟨k + 1, aV.out, by go_num, uM.out, rG.out⟩
     case measure => have := aV.out; simp [intOf]; omega
    ·have hb : decide (x = y) = false := decide_eq_false hxy
     rw [hb] at HS
     have rG := aa (uX.out hxy)
     clear hxy hb uX xg
     go_wp2_with fail
     refine HS.out.mono ?_
     rintro e w' ⟨rfl, hu⟩
     have uM := aa (HUA.out.trans hu)
     clear hu
     go_wp2_with fail
     go_ret
     exact ⟨aL rG.out.symm, uM.out⟩
   ·obtain rfl : k = xs.length := by omega
    have Je : Hid (decide (xs = ys) = true) := decide_eq_true (Fg.out.2 hd.out)
    clear hlt hk hd
    go_wp2_with fail
    go_ret
    exact ⟨aL (by rw [Je.out]), hQ.out⟩
 ·have fA : ((xs.length : Int) != ys.length) = true := by simp; omega
  have HL : Hid (decide (xs = ys) = false) := decide_eq_false fun e => hl (by rw [e])
  clear hl
  go_enter Tryz.func106, Tryz.ntmps106
  go_wp2_with fail
  go_ret
  exact ⟨aL HL.out.symm, Up.refl _⟩
def sV (names : List ByteArray) (states : List (List Int)) (ts : List ay) (sc : Int) : Int := if cI names states ≠ 0 then cI names states else if nZ names states = sc ∧ ja names states = ts then 0 else 18
theorem KH {names : List ByteArray} {states : List (List Int)} (h5 : names.length ≤ 5 ∨ 7 < names.length) : (ja names states).length ≤ 63 ∧ ∀ k, (gt (ja names states) k).ps.length ≤ 1000000 ∧ (gt (ja names states) k).ns.length ≤ 1000000 := by
 unfold ja
 split
 ·rename_i h0
  have hc := wD h5 h0
  have bf : (allT names).length ≤ 15 := by
   unfold allT
   rw [List.length_map, lN hc.nm]
   split <;> (try split) <;> (try split) <;> omega
  refine ⟨Nat.le_trans (List.length_filter_le _ _) (by omega), JU fun t ht => ?_⟩
  have ht2 := (List.mem_filter.1 ht).1
  obtain ⟨ho, _⟩ := o6 hc.nm ht2
  obtain ⟨_, LW, hl, _, _⟩ := aD ho.te
  omega
 ·exact ⟨Nat.zero_le _, JU fun t h => by cases h⟩
set_option maxHeartbeats 2000000 in
theorem Xb (S : Nat → Prop) (w : World) (v vs vt : Value) (names : List ByteArray) (states : List (List Int)) (ts : List ay) (sc : Int) (h : ah S w v names) (hn : names.length ≤ 1000000) (hz : ∀ k, (gs names k).size ≤ 70000) (hS : aU S w vs states) (pY : states.length ≤ 1000000) (hr : ∀ k, (gl states k).length ≤ 1000000) (h5 : names.length ≤ 5 ∨ 7 < names.length)
  (hT : cD Any w vt ts) (htr : ∀ k, (gt ts k).ps.length ≤ 1000000 ∧ (gt ts k).ns.length ≤ 1000000) :
  Calls Tryz.prog 45 #[v, vs, vt, .int .i64 sc] w fun e w' => e = .returned (.int .i64 (sV names states ts sc)) ∧ Up w w' := by
 have qJ := aa (Bf S w v vs names states h hn hz hS pY hr h5)
 have Fg := aa (KH (states := states) h5)
 have HC : Hid (sV names states ts sc = if cI names states ≠ 0 then cI names states else if nZ names states = sc ∧ ja names states = ts then 0 else 18) := rfl
 obtain ⟨tp, tc, rfl, -⟩ := gz hT
 obtain ⟨mp, mc, rfl, -, -⟩ := aB.open h
 obtain ⟨sp, sc', rfl, -, -⟩ := eR hS
 have HT := aa hT
 have Eg := aa htr
 clear h hS hz hr h5 hT htr
 go_enter Tryz.func45, Tryz.ntmps45
 go_wp2_with fail
 refine qJ.out.mono ?_
 rintro e w2 ⟨aG, v2, rfl, ht2⟩
 obtain ⟨p2, c2, rfl, -⟩ := gz ht2
 have bw := aa aG
 have Fb := aa (JX Any Any w2 _ _ (ja names states) ts ht2 (HT.out.keep (aG.kept _)) Fg.out.1 Fg.out.2 Eg.out)
 clear aG ht2 qJ Fg
 generalize cI names states = ce at *
 generalize nZ names states = bn at *
 generalize ja names states = bl at *
 by_cases c1 : ce = 0
 ·subst c1
  have Af : Hid (sV names states ts sc = if bn = sc ∧ bl = ts then 0 else 18) := by unfold Hid; rw [HC.out, if_neg (by simp)]
  by_cases VC : bn = sc
  ·subst VC
   have d1 : (bn != bn) = false := by simp
   by_cases c3 : bl = ts
   ·have d2 : decide (bl = ts) = true := decide_eq_true c3
    rw [d2] at Fb
    have HF : Hid (sV names states ts bn = 0) := by unfold Hid; rw [Af.out, if_pos ⟨rfl, c3⟩]
    clear c3 d2 HC Af
    go_wp2_with fail
    refine Fb.out.mono ?_
    rintro e w3 ⟨rfl, bX⟩
    have dc := aa (bw.out.trans bX)
    clear bX
    go_wp2_with fail
    go_ret
    exact ⟨aI HF.out.symm, dc.out⟩
   ·have d2 : decide (bl = ts) = false := decide_eq_false c3
    rw [d2] at Fb
    have HF : Hid (sV names states ts bn = 18) := by unfold Hid; rw [Af.out, if_neg fun e => c3 e.2]
    clear c3 d2 HC Af
    go_wp2_with fail
    refine Fb.out.mono ?_
    rintro e w3 ⟨rfl, bX⟩
    have dc := aa (bw.out.trans bX)
    clear bX
    go_wp2_with fail
    go_ret
    exact ⟨aI HF.out.symm, dc.out⟩
  ·have d1 : (bn != sc) = true := by simp [VC]
   have HF : Hid (sV names states ts sc = 18) := by unfold Hid; rw [Af.out, if_neg fun e => VC e.1]
   clear VC HC Af Fb
   go_wp2_with fail
   go_ret
   exact ⟨aI HF.out.symm, bw.out⟩
 ·have HF : Hid (sV names states ts sc = ce) := by unfold Hid; rw [HC.out, if_pos c1]
  have d1 : (ce != 0) = true := by simp [c1]
  clear HC Fb c1
  go_wp2_with fail
  go_ret
  exact ⟨aI HF.out.symm, bw.out⟩
end
end Go.Proofs.YthgabkgmkolobaaGreat
