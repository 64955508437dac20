/- Layer 34's law: children. optimaltree.All. -/
import Derived.RangeFuncWrites
import Derived.Maps.OwnIn
import Derived.RangeFuncNested
import Derived.RangeFuncBound
import Derived.RangeFuncCalls
import Derived.RangeFuncLeaves
import Derived.Shelf.Abstract
import Derived.Shelf.RegionOpen
import Derived.WalkKit
import Derived.OwnWalkIn
import Derived.TacticsInMore
import Derived.LoopNIn
import Derived.LoopIn
import Derived.Sort.QuietIn
import Derived.Stop.RegionWithIn
import Derived.Test.YthgabkgmkolobaaGreatProg
import Derived.WalkSpells
import Derived.WalkLawsBesides
import Derived.Deep.OwnRows
import Derived.Deep.QuietTactic
import Derived.BigQuiet
import Derived.Lib.Hide
import Derived.Shelf.Small.Strs
import Derived.Maps.AppendAt
import Derived.Deep.AppendLies
import Derived.OrdersIn
import Derived.OrdersHeld
import Derived.Deep.RegionHeld
import Derived.Shelf.SortM.Plain
import Derived.Shelf.SortM.SortNone
import Derived.Sort.OwnSortedInts
import Derived.StillTail
import Derived.Shelf.SlGeneric
import Derived.Shelf.SlLaysM
import Derived.Ground.SlgmProg
import Derived.Laws.EntriesVeiled
import Derived.RangeFuncKeeps
import Derived.Sort.OwnSorted
import Derived.Lib.Bytealg
import Derived.Sort.Statements
import Derived.MapKept
import Derived.Laws.Pointers
import Derived.Shelf.SlSortCmp.NoneTotal
import Derived.Deep.RegionHeld3
import Derived.StillTailTactics
import Derived.Deep.CutRange
import Derived.ArgAppend
import Derived.Laws.Bits64b
import Derived.Laws.BitsAllLaws
import Derived.Laws.IdiomStrings
import Derived.Shelf.Slices.In.SortNone
import Derived.Shelf.Lays
import Derived.Shelf.Sort.Plain
import Derived.Ground.NamesProg
import Derived.Lib.SliceRun
import Derived.Lib.IndexAny
import Derived.Lib.MinMax
import Derived.Shelf.Strings.BuilderK
import Derived.Ground.Names2Prog
import Derived.Lib.OthersKept
import Derived.Shelf.Strings.IndexAnyAll
import Derived.Laws.RangeAny
import Derived.WalkMore
import Derived.Shelf.Small.Utf8
import Derived.Shelf.SlSortCmp.WholeK
import Derived.Ground.SlsfProg
import Derived.Deep.RegionWith
import Derived.Test.YthgabkgmkolobaaGreatQ46
import Derived.Test.YthgabkgmkolobaaGreatQ38
import Derived.Test.YthgabkgmkolobaaGreatQ35
import Derived.Test.YthgabkgmkolobaaGreatQ34
import Derived.Test.YthgabkgmkolobaaGreatQ33
import Derived.Test.YthgabkgmkolobaaGreatQ32
import Derived.Test.YthgabkgmkolobaaGreatQ31
import Derived.Test.YthgabkgmkolobaaGreatQ30
import Derived.Test.YthgabkgmkolobaaGreatQ6
import Derived.Test.YthgabkgmkolobaaGreatQ5
import Derived.Test.YthgabkgmkolobaaGreatQ3
import Derived.Test.YthgabkgmkolobaaGreatQ2
import Derived.Test.YthgabkgmkolobaaGreatQ1
import Derived.Test.YthgabkgmkolobaaGreatQ4
import Derived.Test.YthgabkgmkolobaaGreatQ11
import Derived.Test.YthgabkgmkolobaaGreatQ8
import Derived.Test.YthgabkgmkolobaaGreatQ23
import Derived.Test.YthgabkgmkolobaaGreatQ12
import Derived.Test.YthgabkgmkolobaaGreatQ10
import Derived.Test.YthgabkgmkolobaaGreatQ7
import Derived.Test.YthgabkgmkolobaaGreatQ9
import Derived.Test.YthgabkgmkolobaaGreatQ29
import Derived.Test.YthgabkgmkolobaaGreatQ22
import Derived.Test.YthgabkgmkolobaaGreatQ21
import Derived.Test.YthgabkgmkolobaaGreatQ20
import Derived.Test.YthgabkgmkolobaaGreatQ19
import Derived.Test.YthgabkgmkolobaaGreatQ18
import Derived.Test.YthgabkgmkolobaaGreatQ17
import Derived.Test.YthgabkgmkolobaaGreatQ16
import Derived.Test.YthgabkgmkolobaaGreatQ15
import Derived.Test.YthgabkgmkolobaaGreatQ14
import Derived.Test.YthgabkgmkolobaaGreatQ13
import Derived.Test.YthgabkgmkolobaaGreatQ24
import Derived.Test.YthgabkgmkolobaaGreatQ25
import Derived.Test.YthgabkgmkolobaaGreatQ27
import Derived.Test.YthgabkgmkolobaaGreatQ26
import Derived.Test.YthgabkgmkolobaaGreatQ28
import Derived.Shelf.Slices.Empties
import Derived.Shelf.Slices.SearchI
import Derived.Test.YthgabkgmkolobaaGreatQ39
set_option maxRecDepth 100000
namespace Go.Proofs.YthgabkgmkolobaaGreat
section
open Go.RowKit Go.Deep
def fF (ps : List Int) (m : Nat) : List Int := (List.range ps.length).map fun i => ((bI ps i m).length : Int)
theorem ng (ps : List Int) (m : Nat) : (fF ps m).length = ps.length := by simp [fF]
theorem CF {ps : List Int} {m i : Nat} (hi : i < ps.length) : gi (fF ps m) i = ((bI ps i m).length : Int) := by simp [fF, gi, hi]
theorem Tp (ps : List Int) : fF ps 0 = List.replicate ps.length 0 := by
 unfold fF
 apply List.ext_getElem
 ·simp
 ·intro i h1 h2
  simp [bI]
theorem Tq (ps : List Int) : fF ps 1 = fF ps 0 := by
 unfold fF
 refine List.map_congr_left fun i hi => ?_
 rw [gq, if_neg (by omega), List.append_nil]
theorem Tr {ps : List Int} (hok : fZ ps = true) {m p : Nat} (hm : m < ps.length) (hp : gi ps m = (p : Int)) : p < m ∧ fF ps (m + 1) = (fF ps m).set p (gi (fF ps m) p + 1) := by
 have IQ : p < m := by have := (kM hok hm).1; omega
 refine ⟨IQ, ?_⟩
 apply List.ext_getElem
 ·simp [fF]
 ·intro i h1 h2
  have hi : i < ps.length := by simpa [fF] using h1
  have e1 : (fF ps (m + 1))[i] = ((bI ps i (m + 1)).length : Int) := by simp [fF]
  rw [e1, gq, List.getElem_set]
  by_cases e : p = i
  ·subst e
   rw [if_pos rfl, if_pos ⟨IQ, hp⟩, CF hi, List.length_append]; simp
  ·rw [if_neg e, if_neg (by rw [hp]; omega), List.append_nil]; simp [fF]
theorem Nr (W : World) (n : Nat) (hn : n ≤ 1000000) : aC W.heap.size 3 (W.alloc (.cells (madeCells #[.int .i64 0] n) 3)) (.slice (some ⟨W.heap.size, 0, none⟩) n n) ((List.replicate n (0 : Int)).map (Value.int .i64)) := by
 have hl : ((List.replicate n (0 : Int)).map (Value.int .i64)).length = n := by simp
 refine ⟨by rw [Nat.mul_one], .inr ⟨W.heap.size, n, madeCells #[.int .i64 0] n, by rw [hl], Nat.le_refl _, blk_alloc_new W _, by rw [hl]; exact Nat.le_refl _, by unfold maxLen; omega, by simp [size_madeCells], ?_⟩⟩
 rw [hl]
 apply List.ext_getElem
 ·simp [size_madeCells]
 ·intro i h1 h2
  simp at h2
  simp [madeCells, Nat.mod_one]
def QH (w : World) (t : ay) (e : Ending) (w' : World) : Prop := Up w w' ∧ ∃ v, e = .returned v ∧ aC w.heap.size 3 w' v ((fF t.ps t.ps.length).map (Value.int .i64))
set_option maxHeartbeats 2000000 in
theorem yZ (S : Nat → Prop) (w : World) (v : Value) (t : ay) (hT : aA S w v t) (hok : fZ t.ps = true) (LW : t.ps.length ≤ 64) : Calls Tryz.prog 31 #[v] w (QH w t) := by
 obtain ⟨P, N, rfl, hP, hN⟩ := hT
 obtain ⟨pp, pc, rfl, -, -⟩ := aB.open hP
 obtain ⟨np, nc, rfl, -, -⟩ := aB.open hN
 have hP : aq S w (.slice pp t.ps.length pc) t.ps := hP
 have hu := Up.alloc w (.cells #[.slice pp t.ps.length pc, .slice np t.ns.length nc] 39)
 have c0 := dW w (.slice pp t.ps.length pc) (.slice np t.ns.length nc) 39
 have hs1 : (w.alloc (.cells #[.slice pp t.ps.length pc, .slice np t.ns.length nc] 39)).heap.size = w.heap.size + 1 := World.size_alloc _ _
 have HP : Hid (aq (fun b => b < w.heap.size) (w.alloc (.cells #[.slice pp t.ps.length pc, .slice np t.ns.length nc] 39)) (.slice pp t.ps.length pc) t.ps) := aq.keep (hP.sub fun b _ hl => hl) (hu.kept _)
 have HU := aa hu
 have eH := aa c0
 have jT := aa hs1
 have lU := aa hok
 have Yx := aa LW
 have HFX0 : Hid (∀ W v, Up w W → aC w.heap.size 3 W v ((fF t.ps t.ps.length).map (Value.int .i64)) → QH w t (.returned v) W) := fun W v h1 h2 => ⟨h1, v, rfl, h2⟩
 generalize t.ps = ps at *
 have hmk := fun W => run_make_row' (P := Tryz.prog) 26 3 (.int .i64 0) 8 Tryz.underlying26 Tryz.ki rfl .i64 .i64 ps.length (by omega) (by omega) W
 have HZ := aa (Nr (w.alloc (.cells #[.slice pp ps.length pc, .slice np t.ns.length nc] 39)) ps.length (by omega))
 rw [← Tp] at HZ
 simp only [World.size_alloc] at HZ
 clear hP hN hu c0 hs1 hok LW
 go_enter Tryz.func31, Tryz.ntmps31
 have c0 := eH.out
 go_wp2_with fail
 clear hmk
 generalize w.alloc (.cells #[.slice pp ps.length pc, .slice np t.ns.length nc] 39) = w1 at *
 have aG := Up.alloc w1 (.cells (madeCells #[.int .i64 0] ps.length) 3)
 have bw := aa (HU.out.trans aG)
 have Pr := aa (aq.keep HP.out (aG.kept _))
 generalize w1.alloc (.cells (madeCells #[.int .i64 0] ps.length) 3) = w2 at *
 clear aG c0
 have sG : Hid (aC (w.heap.size + 1) 3 w2 (.slice (some ⟨w.heap.size + 1, 0, none⟩) ps.length ps.length) ((fF ps 0).map (Value.int .i64)) ∧ Up w w2) := ⟨HZ.out, bw.out⟩
 clear HZ
 go_loopw [5, 13] (fun _ i wr => ∃ m : Nat, m ≤ ps.length ∧ i = .int .i64 m ∧ Hid (aC (w.heap.size + 1) 3 wr (.slice (some ⟨w.heap.size + 1, 0, none⟩) ps.length ps.length) ((fF ps m).map (Value.int .i64)) ∧ Up w wr) ∧ Hid (aq (fun b => b < w.heap.size) wr (.slice pp ps.length pc) ps)) (fun _ i _ => ps.length - (intOf i).toNat)
 case atStart => exact ⟨0, Nat.zero_le _, rfl, sG.out, Pr.out⟩
 case round =>
  obtain ⟨m, hm, rfl, hI, hPr⟩ := hrel
  obtain ⟨wo, rfl⟩ : ∃ wo : World, wo = wr := ⟨_, rfl⟩
  obtain ⟨hO, dH⟩ := hI.out
  have m0 : (0 : Int) ≤ (m : Int) := by omega
  by_cases hlt : m < ps.length
  ·obtain ⟨b, off, rfl, jN⟩ := cK hPr.out hlt
   have i1 : (m : Int) < (ps.length : Int) := by omega
   have i2 : (m : Int) < 64 := by have := Yx.out; omega
   have aV := aa hlt
   obtain ⟨r1, r2, r3⟩ := kM lU.out hlt
   by_cases h0 : m = 0
   ·rw [r3 h0] at jN
    have HI1 : Hid (aC (w.heap.size + 1) 3 wo (.slice (some ⟨w.heap.size + 1, 0, none⟩) ps.length ps.length) ((fF ps (m + 1)).map (Value.int .i64)) ∧ Up w wo) := by
     have h := hI.out
     subst h0
     rw [← Tq] at h; exact h
    clear hI hO r1 r2 r3 h0
    go_wp2_with fail
    go_roundw
    case rel => exact ⟨m + 1, aV.out, by go_num, HI1.out, hPr.out⟩
    case measure => have := aV.out; simp [intOf]; omega
   ·obtain ⟨p, hp⟩ : ∃ p : Nat, gi ps m = (p : Int) := ⟨(gi ps m).toNat, by have := r2 (by omega); omega⟩
    obtain ⟨q1, q2⟩ := Tr lU.out hlt hp
    have yu : p < ps.length := by omega
    obtain ⟨g, cap, e, h1, h2, h3, h4, h5⟩ := hO.set (j := p) (by rw [List.length_map, ng]; exact yu)
    injection e with e e6 e7
    injection e with e
    injection e with e
    subst e
    clear e6 e7
    rw [hp] at jN
    have hgd : ((fF ps m).map (Value.int .i64)).getD p undef = .int .i64 (gi (fF ps m) p) := by
     have : p < (fF ps m).length := by rw [ng]; exact yu
     simp [gi, this]
    rw [hgd] at h3
    have hkb : 0 ≤ gi (fF ps m) p ∧ gi (fF ps m) p ≤ 64 := by
     rw [CF yu]
     have h6 : (bI ps p m).length ≤ m := by
      unfold bI
      have := List.length_filter_le (fun i => decide (p < i) && gi ps i == (p : Int)) (List.range m)
      rwa [List.length_range] at this
     have := Yx.out
     omega
    have HST : Hid (aC (w.heap.size + 1) 3 (wo.setCell ⟨w.heap.size + 1, p, none⟩ (.int .i64 (gi (fF ps m) p + 1))) (.slice (some ⟨w.heap.size + 1, 0, none⟩) ps.length ps.length) ((fF ps (m + 1)).map (Value.int .i64))) := by
     have h := h5 (.int .i64 (gi (fF ps m) p + 1))
     unfold Hid
     rw [q2, List.map_set]; exact h
    have HUS : Hid (Up w (wo.setCell ⟨w.heap.size + 1, p, none⟩ (.int .i64 (gi (fF ps m) p + 1)))) := Below.setCell (p := ⟨w.heap.size + 1, p, none⟩) dH (Nat.le_succ _) _
    have mA : Hid (aq (fun b => b < w.heap.size) (wo.setCell ⟨w.heap.size + 1, p, none⟩ (.int .i64 (gi (fF ps m) p + 1))) (.slice (some ⟨b, off, none⟩) ps.length pc) ps) :=
     aq.keep hPr.out fun k hk _ => blk_setCell_other _ _ _ _ (by have : k < w.heap.size := hk; show k ≠ w.heap.size + 1; omega)
    have p1 : (p : Int) < (ps.length : Int) := by omega
    have p2 : (p : Int) < 64 := by omega
    have p0 : (0 : Int) ≤ (p : Int) := by omega
    generalize gi (fF ps m) p = x at *
    obtain ⟨x0, x1⟩ := hkb
    clear hI hO dH r1 r2 r3 h5 q2 hgd h1 h2
    go_wp2_with fail
    go_roundw
    case rel => exact ⟨m + 1, aV.out, by go_num, ⟨HST.out, HUS.out⟩, mA.out⟩
    case measure => have := aV.out; simp [intOf]; omega
  ·obtain rfl : m = ps.length := by omega
   have ey := aa (HFX0.out wo _ dH (show aC w.heap.size 3 wo (.slice (some ⟨w.heap.size + 1, 0, none⟩) ps.length ps.length) ((fF ps ps.length).map (Value.int .i64)) from ⟨hO.1, hO.2.imp id fun ⟨g, c, cur, e, hg, h⟩ => ⟨g, c, cur, e, by omega, h⟩⟩))
   clear hI hO dH hlt
   go_wp2_with fail
   go_ret
   exact ey.out
end
section
open Go.RowKit Go.Deep
set_option maxHeartbeats 8000000 in
theorem WT (S : Nat → Prop) (w : World) (v : Value) (names : List ByteArray) (h : ah S w v names) (hn : names.length ≤ 1000000) (hz : ∀ k, (gs names k).size ≤ 70000) (h5 : names.length ≤ 5 ∨ 7 < names.length) :
  Calls Tryz.prog 27 #[v] w (pg w names) := by
 have fS := aa (uW S w v names h hn hz)
 obtain ⟨p, cap, rfl, hcap, -⟩ := aB.open h
 have h : ah S w (.slice p names.length cap) names := h
 have u7 : Hid (∀ W, Up w W → bW names = 0 → Calls Tryz.prog 68 #[.slice p names.length cap] W (IV W names)) := fun W hW h0 => by
  have Qx : names.length ≤ 5 := by
   rcases h5 with h5 | h5
   ·exact h5
   ·unfold bW at h0; rw [if_pos (.inr h5)] at h0; cases h0
  exact E1 S W _ names ((mJ Qx).1 h0) (ah.keep h (hW.kept S))
 have HAC : Hid (bW names = 0 → (allT names).length ≤ 15) := fun h0 => by
  have Qx : names.length ≤ 5 := by
   rcases h5 with h5 | h5
   ·exact h5
   ·unfold bW at h0; rw [if_pos (.inr h5)] at h0; cases h0
  unfold allT
  rw [List.length_map, lN ((mJ Qx).1 h0)]
  split <;> (try split) <;> (try split) <;> omega
 clear h hz h5
 go_enter Tryz.func27, Tryz.ntmps27
 go_wp2_with fail
 refine fS.out.mono ?_
 rintro e w1 ⟨rfl, aR⟩
 have bH := aa aR
 have Jo := aa (u7.out w1 aR)
 clear aR fS u7
 by_cases c1 : bW names = 0
 ·have Jp := aa (Jo.out c1)
  have kU := aa (HAC.out c1)
  have ey : Hid (∀ W v, Up w W → cD Any W v (allT names) → pg w names (.returned (.tuple #[v, .int .i64 0])) W) := fun W v hu ht => ⟨hu, v, by rw [c1], by rw [if_pos c1]; exact ht⟩
  rw [c1]
  clear c1 Jo HAC
  go_wp2_with fail
  refine Jp.out.mono ?_
  rintro e w2 ⟨aG, ev, rfl, Jt⟩
  obtain ⟨eg, ec, rfl⟩ := E8 Jt
  have tI := aa Jt
  have bw := aa (bH.out.trans aG)
  have dG : Hid ((allT names).length = (aM names).length) := by unfold allT; rw [List.length_map]; exact rfl
  have sG : Hid (Vp w2 names 0 (.slice none 0 0) w2) := ⟨Up.refl _, [], ic.nil _ _, by simp⟩
  clear Jt aG Jp bH
  go_wp2_with fail
  go_loopw [7, 9, 25] (fun out _ i wr => ∃ n : Nat, n ≤ (aM names).length ∧ i = .int .i64 n ∧ Hid (Vp w2 names n out wr)) (fun _ _ i _ => (aM names).length - (intOf i).toNat)
  case atStart => exact ⟨0, Nat.zero_le _, rfl, sG.out⟩
  case round =>
   obtain ⟨n, hn, rfl, hI⟩ := hrel
   obtain ⟨wo, rfl⟩ : ∃ wo : World, wo = wr := ⟨_, rfl⟩
   obtain ⟨dH, es, hes, hem⟩ := hI.out
   by_cases hlt : n < (aM names).length
   ·have hEo := tI.out.keep dH
    obtain ⟨pp, pc, np, nc, c0, c1, c2, hT⟩ := Bb tI.out hlt
    replace c0 := dH.cell c0
    replace c1 := dH.cell c1
    replace c2 := dH.cell c2
    have hlt2 : n < (allT names).length := by rw [dG.out]; exact hlt
    have gO : es.length = n := by
     have := congrArg List.length hem
     rw [List.length_map, List.length_take] at this
     omega
    have gV : Hid ((allT names).take (n + 1) = es.map (·.2) ++ [gt (allT names) n]) := by unfold Hid; rw [Du hlt2, hem]
    replace hT : aA (fun b => b < w2.heap.size) wo (.agg #[.slice pp (gt (allT names) n).ps.length pc, .slice np (gt (allT names) n).ns.length nc]) (gt (allT names) n) := aA.keep (hT.sub fun b _ hb => hb) (dH.kept _)
    replace c0 : wo.cell? ⟨eg, n * 3, none⟩ = some (.slice pp (gt (allT names) n).ps.length pc) := c0
    replace c1 : wo.cell? ⟨eg, n * 3 + 1, none⟩ = some (.slice np (gt (allT names) n).ns.length nc) := c1
    generalize gt (allT names) n = q at *
    generalize aK ((aM names).getD n (.node ByteArray.empty [])) = key at *
    obtain ⟨op, oc, rfl⟩ := hes.form
    rw [gO]
    have bf := Up.alloc wo (.cells #[.slice pp q.ps.length pc, .slice np q.ns.length nc, .string key] 96)
    have tL : Hid (ic w2.heap.size (wo.alloc (.cells #[.slice pp q.ps.length pc, .slice np q.ns.length nc, .string key] 96)) (.slice op n oc) es) := by have h := hes.up bf; rw [gO] at h; exact h
    have I9 : Hid (aA (fun b => some b ≠ (Value.slice op n oc).ownBlock) (wo.alloc (.cells #[.slice pp q.ps.length pc, .slice np q.ns.length nc, .string key] 96)) (.agg #[.slice pp q.ps.length pc, .slice np q.ns.length nc]) q) := by
     have h2 := hes.1
     rw [gO] at h2
     exact (hT.keep (bf.kept _)).sub fun b hb _ e => by have := (World.ownsRow.lt h2 b e.symm).1; omega
    have E3 := aa (dH.trans bf)
    have aV := aa hlt2
    have HLN2 := aa gO
    have i4 : (n : Int) < ((aM names).length : Int) := by omega
    have i5 : (n : Int) < 16 := by have := kU.out; omega
    clear hI dH hes hem hlt hlt2 hT bf gO
    go_wp2_with (at_builtin; go_loud (refine sO _ rfl _ _ 33 rfl w2.heap.size _ 48 Tryz.underlying33 Tryz.infoTree rfl (by decide) tL.out rfl ((.slice pp q.ps.length pc, .slice np q.ns.length nc), q) (by rw [World.size_alloc]; rfl) I9.out n HLN2.out (by have := aV.out; have := kU.out; omega) E3.out.size ?_); intro g8 gW w8 bU cG sH; have sI := aa bU; have iX := aa sH; clear bU cG sH)
    go_roundw
    case rel => exact ⟨n + 1, by have := aV.out; rw [dG.out] at this; omega, by go_num, Below.trans (show Below w2.heap.size w2 _ from E3.out) iX.out, _, sI.out, by rw [gV.out, List.map_append]; rfl⟩
    case measure => have := aV.out; rw [dG.out] at this; simp [intOf]; omega
   ·obtain rfl : n = (aM names).length := by omega
    have sJ : es.map (·.2) = allT names := by rw [hem, ← dG.out, List.take_length]
    have qf := aa (ey.out wo _ (bw.out.trans dH) (sJ ▸ hes.trees))
    clear hI dH hes hem sJ hlt
    go_wp2_with fail
    go_ret2
    exact qf.out
 ·have ey : Hid (pg w names (.returned (.tuple #[.slice none 0 0, .int .i64 (bW names)])) w1) := ⟨bH.out, _, rfl, by rw [if_neg c1]; exact cD.nil _ _⟩
  generalize bW names = a at *
  go_wp2_with fail
  go_ret2
  exact ey.out
end
end Go.Proofs.YthgabkgmkolobaaGreat
