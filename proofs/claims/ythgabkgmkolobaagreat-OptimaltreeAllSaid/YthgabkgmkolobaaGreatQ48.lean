/- The walk of OptimaltreeAll. -/
import Derived.Deep.RegionHeld3
import Derived.RangeFuncWrites
import Derived.RangeFuncKeeps
import Derived.Laws.EntriesVeiled
import Derived.RangeFuncNested
import Derived.RangeFuncBound
import Derived.RangeFuncCalls
import Derived.RangeFuncLeaves
import Derived.Shelf.Abstract
import Derived.Shelf.RegionOpen
import Derived.WalkKit
import Derived.OwnWalkIn
import Derived.TacticsInMore
import Derived.LoopNIn
import Derived.LoopIn
import Derived.Sort.QuietIn
import Derived.Stop.RegionWithIn
import Derived.Test.YthgabkgmkolobaaGreatProg
import Derived.WalkSpells
import Derived.WalkLawsBesides
import Derived.Deep.OwnRows
import Derived.Deep.QuietTactic
import Derived.BigQuiet
import Derived.Lib.Hide
import Derived.Shelf.Small.Strs
import Derived.Maps.AppendAt
import Derived.Deep.AppendLies
import Derived.Sort.OwnSorted
import Derived.Lib.Bytealg
import Derived.Sort.Statements
import Derived.StillTail
import Derived.MapKept
import Derived.Laws.Pointers
import Derived.Shelf.SlGeneric
import Derived.Shelf.SlSortCmp.NoneTotal
import Derived.OrdersHeld
import Derived.Deep.RegionHeld
import Derived.StillTailTactics
import Derived.OrdersIn
import Derived.Deep.CutRange
import Derived.ArgAppend
import Derived.Laws.Bits64b
import Derived.Laws.BitsAllLaws
import Derived.Laws.IdiomStrings
import Derived.Shelf.Slices.In.SortNone
import Derived.Shelf.Lays
import Derived.Shelf.Sort.Plain
import Derived.Ground.NamesProg
import Derived.Shelf.SortM.Plain
import Derived.Shelf.SortM.SortNone
import Derived.Sort.OwnSortedInts
import Derived.Shelf.SlLaysM
import Derived.Ground.SlgmProg
import Derived.Lib.SliceRun
import Derived.Lib.IndexAny
import Derived.Lib.MinMax
import Derived.Shelf.Strings.BuilderK
import Derived.Ground.Names2Prog
import Derived.Lib.OthersKept
import Derived.Shelf.Strings.IndexAnyAll
import Derived.Laws.RangeAny
import Derived.WalkMore
import Derived.Shelf.Small.Utf8
import Derived.Maps.OwnIn
import Derived.Shelf.Slices.Empties
import Derived.Shelf.Slices.SearchI
import Derived.Deep.RegionWith
import Derived.Laws.CopyOwn
import Derived.Deep.RegionLaw
import Derived.RegionTactic
import Derived.Shelf.Bits.Mul64
import Derived.Shelf.SlSortCmp.WholeK
import Derived.Ground.SlsfProg
import Derived.Shelf.Lays2
import Derived.Shelf.Slices.CompactI
import Derived.Test.YthgabkgmkolobaaGreatQ47
import Derived.Test.YthgabkgmkolobaaGreatQ45
import Derived.Test.YthgabkgmkolobaaGreatQ44
import Derived.Test.YthgabkgmkolobaaGreatQ41
import Derived.Test.YthgabkgmkolobaaGreatQ33
import Derived.Test.YthgabkgmkolobaaGreatQ30
import Derived.Test.YthgabkgmkolobaaGreatQ46
import Derived.Test.YthgabkgmkolobaaGreatQ22
import Derived.Test.YthgabkgmkolobaaGreatQ21
import Derived.Test.YthgabkgmkolobaaGreatQ16
import Derived.Test.YthgabkgmkolobaaGreatQ15
import Derived.Test.YthgabkgmkolobaaGreatQ14
import Derived.Test.YthgabkgmkolobaaGreatQ13
import Derived.Test.YthgabkgmkolobaaGreatQ12
import Derived.Test.YthgabkgmkolobaaGreatQ3
import Derived.Test.YthgabkgmkolobaaGreatQ2
import Derived.Test.YthgabkgmkolobaaGreatQ1
import Derived.Test.YthgabkgmkolobaaGreatQ10
import Derived.Test.YthgabkgmkolobaaGreatQ8
import Derived.Test.YthgabkgmkolobaaGreatQ7
import Derived.Test.YthgabkgmkolobaaGreatQ6
import Derived.Test.YthgabkgmkolobaaGreatQ5
import Derived.Test.YthgabkgmkolobaaGreatQ4
import Derived.Test.YthgabkgmkolobaaGreatQ9
import Derived.Test.YthgabkgmkolobaaGreatQ11
import Derived.Test.YthgabkgmkolobaaGreatQ20
import Derived.Test.YthgabkgmkolobaaGreatQ19
import Derived.Test.YthgabkgmkolobaaGreatQ18
import Derived.Test.YthgabkgmkolobaaGreatQ17
import Derived.Test.YthgabkgmkolobaaGreatQ31
import Derived.Test.YthgabkgmkolobaaGreatQ29
import Derived.Test.YthgabkgmkolobaaGreatQ23
import Derived.Test.YthgabkgmkolobaaGreatQ24
import Derived.Test.YthgabkgmkolobaaGreatQ25
import Derived.Test.YthgabkgmkolobaaGreatQ27
import Derived.Test.YthgabkgmkolobaaGreatQ26
import Derived.Test.YthgabkgmkolobaaGreatQ28
import Derived.Test.YthgabkgmkolobaaGreatQ39
import Derived.Test.YthgabkgmkolobaaGreatQ38
import Derived.Test.YthgabkgmkolobaaGreatQ36
import Derived.Test.YthgabkgmkolobaaGreatQ34
import Derived.Test.YthgabkgmkolobaaGreatQ32
import Derived.Test.YthgabkgmkolobaaGreatQ35
import Derived.Test.YthgabkgmkolobaaGreatQ42
import Derived.Test.YthgabkgmkolobaaGreatQ43
import Derived.Test.YthgabkgmkolobaaGreatQ40
import Derived.Test.YthgabkgmkolobaaGreatQ37
set_option maxRecDepth 100000
namespace Go.Proofs.YthgabkgmkolobaaGreat
open Go.RowKit Go.Deep
theorem WU {names : List ByteArray} (hn : cH names) : IW (names.length : Int) = 0 ∧ IX (names.length : Int) = ((allT names).length : Int) := by
 have h1 : (allT names).length = if names.length = 2 then 1 else if names.length = 3 then 1 else if names.length = 4 then 3 else 15 := by unfold allT; rw [List.length_map, lN hn]
 rw [h1]
 have hlo := hn.lo
 have hhi := hn.hi
 generalize names.length = n at *
 obtain rfl | rfl | rfl | rfl : n = 2 ∨ n = 3 ∨ n = 4 ∨ n = 5 := by omega
 ·exact ⟨by decide, by decide⟩
 ·exact ⟨by decide, by decide⟩
 ·exact ⟨by decide, by decide⟩
 ·exact ⟨by decide, by decide⟩
def qA (names : List ByteArray) (k : Nat) : RT := (aM names).getD k (.node ByteArray.empty [])
theorem Ts {names : List ByteArray} (hn : cH names) {k : Nat} (hk : k < (allT names).length) : qA names k ∈ aM names ∧ gt (allT names) k = flat (qA names k) ∧ tE (flat (qA names k)) = 0 ∧ (⟨(si (flat (qA names k))).toArray⟩ : ByteArray) = aK (qA names k) := by
 have hk2 : k < (aM names).length := by unfold allT at hk; rwa [List.length_map] at hk
 have hm : qA names k ∈ aM names := by simp [qA, hk2]
 obtain ⟨_, _, _, _, h5, _⟩ := cQ hn hm
 refine ⟨hm, by unfold allT gt qA; simp [hk2], by unfold tE; rw [if_neg (by simp [h5])], ?_⟩
 rw [PC h5, kS]; rfl
theorem WV {names : List ByteArray} {k : Nat} (hk : k < (aM names).length) : ((aM names).take (k + 1)).map (fun q => Value.string (aK q)) = ((aM names).take k).map (fun q => Value.string (aK q)) ++ [.string (aK (qA names k))] := by
 rw [List.take_succ_eq_append_getElem hk, List.map_append]
 simp [qA, hk]
theorem WW {names : List ByteArray} (hn : cH names) {k : Nat} (h0 : 0 < k) (hk : k < (aM names).length) : Op.bytesLess (aK (qA names (k - 1))).toList (aK (qA names k)).toList = true := by
 have e : ∀ r : RT, (aK r).toList = bJ r := fun r => by rw [toList_data]; unfold aK; simp
 rw [e, e, r6, decide_eq_true_iff]
 exact QG hn (show k - 1 < k by omega) hk
set_option maxHeartbeats 8000000 in
theorem QI (w : World) (v : Value) (names : List ByteArray) (h : ah Any w v names) (hn : names.length ≤ 9223372036854775807) (hz : ∀ k, (gs names k).size ≤ 9223372036854775807) :
  Calls Tryz.prog 4 #[v] w fun e w' => e = .returned (.bool true) ∧ Up w w' := by
 obtain ⟨p, cap, rfl, hcap, -⟩ := aB.open h
 have h : ah Any w (.slice p names.length cap) names := h
 have fS := aa (Fe Any w _ names h hn hz)
 have Fj : Hid (∀ W, Calls Tryz.prog 26 #[] W fun e w' => e = .returned (.bool true) ∧ Up W w') := Ff
 have qH : Hid (qy names = true → cH names) := Qz
 have HH := aa h
 clear h hz hn
 go_enter Tryz.func4, Tryz.ntmps4
 go_wp2_with fail
 refine fS.out.mono ?_
 rintro e w1 ⟨rfl, aR⟩
 have bH := aa aR
 cases hf : qy names
 ·clear hf qH fS aR
  go_wp2_with fail
  refine (Fj.out _).mono ?_
  rintro e w' ⟨rfl, mZ⟩
  go_wp2_with fail
  go_ret
  exact ⟨rfl, bH.out.trans mZ⟩
 ·have hnm := qH.out hf
  have CG := hnm.hi
  have hnl := hnm.lo
  have HZ : Hid (∀ k, (gs names k).size ≤ 70000) := fun k => Nat.le_trans (gI (M := 20) (fun x hx => o7 (hnm.nm x hx)) k) (by decide)
  have bf := Jz hnm
  have kU := aa (WT Any w1 _ names (ah.keep HH.out (aR.kept _)) (by omega) HZ.out (.inl CG))
  have h0 : bW names = 0 := (mJ CG).2 hnm
  unfold pg at kU
  rw [h0, if_pos rfl] at kU
  obtain ⟨hce, LN⟩ := WU hnm
  have Aa := aa (fun W => EY (names.length : Int) (by omega) W)
  rw [hce, LN] at Aa
  have HN := aa hnm
  have qg := aa bf
  have fD := aa (And.intro hnl CG)
  have dQ : Hid ((allT names).length = (aM names).length) := by unfold Hid allT; rw [List.length_map]
  obtain ⟨Co, Vx, rfl, Tt⟩ := bz HH.out (k := 0) (by omega)
  rw [Nat.add_zero] at Tt
  have eH := aa Tt
  have n0 : (0 : Int) < (names.length : Int) := by omega
  have n1 : 0 < names.length := by omega
  have hw2 : wrap64 (2 * (names.length : Int) - 1) = 2 * (names.length : Int) - 1 := by unfold wrap64; omega
  have n5 : (names.length : Int) ≤ 5 := by omega
  clear hf qH fS aR hnm CG hnl bf h0 hce LN Tt
  go_wp2_with fail
  refine kU.out.mono ?_
  rintro e w2 ⟨aG, v2, rfl, ht2⟩
  obtain ⟨p2, c2, rfl, -⟩ := gz ht2
  have bw := aa (bH.out.trans aG)
  have Ns := aa aG
  have qD := aa ht2
  clear aG ht2 kU
  go_wp2_with fail
  refine (Aa.out w2).mono ?_
  rintro e w3 ⟨rfl, rfl⟩
  have sG : Hid (aC w2.heap.size 9 w2 (.slice none 0 0) (((aM names).take 0).map fun q => Value.string (aK q)) ∧ Up w2 w2) := ⟨by simp; exact aC.nil _ _ _, Up.refl _⟩
  have d3 : (((allT names).length : Int) != ((allT names).length : Int)) = false := by simp
  clear Aa
  go_wp2_with fail
  go_loopw [7, 9, 10, 11, 12, 13, 14, 15, 45] (fun ts _ _ _ _ _ _ _ i wr => ∃ k : Nat, k ≤ (allT names).length ∧ i = .int .i64 k ∧ Hid (aC w2.heap.size 9 wr ts (((aM names).take k).map fun q => Value.string (aK q)) ∧ Up w2 wr)) (fun _ _ _ _ _ _ _ _ i _ => (allT names).length - (intOf i).toNat)
  case atStart => exact ⟨0, Nat.zero_le _, rfl, sG.out⟩
  case round =>
   obtain ⟨k, hk, rfl, hI⟩ := hrel
   obtain ⟨wo, rfl⟩ : ∃ wo : World, wo = wr := ⟨_, rfl⟩
   obtain ⟨hO, dH⟩ := hI.out
   have k0 : (0 : Int) ≤ (k : Int) := by omega
   by_cases hlt : k < (allT names).length
   ·have i1 : (k : Int) < ((allT names).length : Int) := by omega
    have i2 : (k : Int) < 16 := by have := qg.out.2; omega
    obtain ⟨Vy, hgt, BC, hxt⟩ := Ts HN.out hlt
    obtain ⟨tb, to', pp, pc, np, nc, rfl, q0, q1, hT⟩ := mY qD.out hlt
    obtain ⟨CH, hps, uq, hsz⟩ := wG HN.out (sD hlt)
    obtain ⟨-, LW, -, hok, -⟩ := aD CH.te
    have QC : Hid (∀ i, i < (gt (allT names) k).ps.length → (aS (gt (allT names) k).ps i).length = 0 ∧ gs (gt (allT names) k).ns i ∈ names ∧ (gs (gt (allT names) k).ns i = gs names 0 → gi (gt (allT names) k).ps i = 0) ∨ (aS (gt (allT names) k).ps i).length = 2) := fun i hi => by
     rw [hgt] at hi ⊢
     rcases Nq HN.out Vy hi with e | e
     ·have e2 : aS (flat (qA names k)).ps i = [] := List.eq_nil_of_length_eq_zero e
      exact .inl ⟨e, Ky HN.out Vy hi e2, JH HN.out Vy hi e2⟩
     ·exact .inr e
    rw [← hgt] at BC hxt
    have O7 : Hid (0 < k → Op.bytesLess (aK (qA names (k - 1))).toList (aK (qA names k)).toList = true) := fun h0 => WW HN.out h0 (by rw [← dQ.out]; exact hlt)
    have gV := aa (WV (names := names) (k := k) (by rw [← dQ.out]; exact hlt))
    have aV := aa hlt
    have xy := aa CH.len
    have sj := aa CH.te
    have mA := aa (And.intro hps (And.intro uq hsz))
    have uv := aa (And.intro BC hxt)
    have lU := aa (And.intro hok LW)
    have q0 := dH.cell q0
    have q1 := dH.cell q1
    have gO : (((aM names).take k).map fun q => Value.string (aK q)).length = k := by rw [List.length_map, List.length_take]; have := dQ.out; omega
    obtain ⟨oq, oc, rfl, -⟩ := hO.form (n := k) gO
    have HPV : Hid (0 < k → ∃ g, oq = some ⟨g, 0, none⟩ ∧ wo.cell? ⟨g, k - 1, none⟩ = some (.string (aK (qA names (k - 1))))) := fun h0 => by
     obtain ⟨g, c, e, _, _, h3, _⟩ := hO.set (j := k - 1) (by rw [gO]; omega)
     injection e with e
     refine ⟨g, e, ?_⟩
     rw [h3]
     have : k - 1 < (aM names).length := by have := dQ.out; omega
     congr 1
     simp [qA, show k - 1 < k by omega, this]
    have Ai := aa hO
    have vk := aa dH
    have dG := aa gO
    generalize gt (allT names) k = t at *
    have gL := Up.alloc wo (.cells #[.slice pp t.ps.length pc, .slice np t.ns.length nc] 39)
    have sY : Hid (aA (fun b => b < w2.heap.size) w2 (.agg #[.slice pp t.ps.length pc, .slice np t.ns.length nc]) t) := hT.sub fun b _ hl => hl
    have HT := aa (aA.keep (hT.keep (dH.kept _)) (gL.kept _))
    have dR := aa (And.intro (dW wo (.slice pp t.ps.length pc) (.slice np t.ns.length nc) 39) (eu wo (.slice pp t.ps.length pc) (.slice np t.ns.length nc) 39))
    have HUX := aa (dH.trans gL)
    have qb := aa (Ll Any _ _ t HT.out (by have := mA.out.1; have := fD.out; omega) (by have := mA.out; have := fD.out; omega) mA.out.2.2)
    have uM := aa gL
    unfold yE at qb
    rw [uv.out.1, uv.out.2] at qb
    clear hI hO dH hlt Vy hgt BC hxt hT CH hps uq hsz hok LW gO gL uv
    go_wp2_with fail
    generalize wo.alloc (.cells #[.slice pp t.ps.length pc, .slice np t.ns.length nc] 39) = w4 at *
    refine qb.out.mono ?_
    rintro e w5 ⟨gp, rfl⟩
    have c0 := gp.cell dR.out.1
    have c1 := gp.cell dR.out.2
    have yh := aa (rE Any w5 _ t (HT.out.keep (gp.kept _)) (by have := mA.out.1; have := fD.out; omega) (by have := mA.out; have := fD.out; omega) mA.out.2.2)
    have iT := aa gp
    clear gp qb
    go_wp2_with fail
    refine yh.out.mono ?_
    rintro e w6 ⟨cU, ⟨jY, -⟩ | ⟨-, lv, rfl, hlv⟩⟩
    ·exact absurd sj.out jY
    have cU : Up w5 w6 := cU
    obtain ⟨lp, lc, rfl, -, -⟩ := aB.open hlv
    have Nt := iT.out.trans cU
    have xw := aa (HUX.out.trans Nt)
    have kC := aa (uM.out.trans Nt)
    replace c0 := cU.cell c0
    replace c1 := cU.cell c1
    have su := aa (HT.out.keep (Nt.kept _))
    have LX := aa (Ai.out.eD fun b hb => Below.block kC.out b (aF Ai.out hb).2)
    have d5 : (((aj t.ns).length : Int) != (names.length : Int)) = false := by rw [xy.out]; simp
    have d6 : ((t.ps.length : Int) != 2 * (names.length : Int) - 1) = false := by have := mA.out.1; simp; omega
    have Vu : Hid (k ≤ 1000000) := by have := qg.out.2; unfold Hid; omega
    have ct : Hid (w2.heap.size ≤ w6.heap.size) := xw.out.size
    clear hlv cU Nt yh HT dR iT
    by_cases h0 : k = 0
    ·have d7 : decide ((0 : Int) < (k : Int)) = false := by simp; omega
     have d7n : ¬ (0 : Int) < (k : Int) := by omega
     clear HPV O7 h0
     go_wp2_with (at_builtin; refine fM w6 rfl _ _ 22 rfl w2.heap.size 9 (.string ⟨#[]⟩) 16 Tryz.underlying22 Tryz.fo rfl (by decide) LX.out rfl (.string (aK (qA names k))) rfl rfl k dG.out Vu.out ct.out ?_; intro g8 gW w8 bU cG fq; have sI := aa bU; have iX := aa (Below.grown (show Below w2.heap.size w2 w6 from xw.out) cG ct.out (fun b hb => (aF LX.out hb).1)); have xe : Hid (w8.heap[wo.heap.size]? = w6.heap[wo.heap.size]?) := cG.block _ (World.block_lt_of_cell? w6 _ c0) (fun e => by have := (aF Ai.out e.symm).2; omega); clear bU cG fq; replace c0 := (World.cell?_of_block (a := ⟨wo.heap.size, 0, none⟩) xe.out).trans c0; replace c1 := (World.cell?_of_block (a := ⟨wo.heap.size, 1, none⟩) xe.out).trans c1)
     have iX : Hid (Up w2 w8) := iX.out
     have CI := aa (yZ _ w8 _ t (sY.out.keep (iX.out.kept _)) lU.out.1 lU.out.2)
     refine CI.out.mono ?_
     rintro e w9 ⟨iH, v9, rfl, JI⟩
     obtain ⟨cp, cc, rfl, -⟩ := JI.form (n := t.ps.length) (by rw [List.length_map, ng])
     have HC9 : Hid (aq Any w9 (.slice cp t.ps.length cc) (fF t.ps t.ps.length)) := by
      have h := JI.ints
      unfold aq at h ⊢
      rw [ng] at h ⊢
      exact h.sub fun _ _ _ => trivial
     have ox := aa (iX.out.trans iH)
     have yP := aa (iH.cell c0)
     have GC := aa (iH.cell c1)
     have QJ := aa (sI.out.eD fun b hb => Below.block iH b (aF sI.out hb).2)
     clear iH JI CI sI xe c0 c1 LX Ai su
     have p64 := lU.out.2
     go_wp2_with fail
     go_loopw [14, 15, 104] (fun _ _ i wr => ∃ j : Nat, j ≤ t.ps.length ∧ i = .int .i64 j ∧ Hid (Up w9 wr)) (fun _ _ i _ => t.ps.length - (intOf i).toNat)
     case atStart => exact ⟨0, Nat.zero_le _, rfl, Up.refl _⟩
     case round =>
      obtain ⟨j, hj, rfl, hU⟩ := hrel
      obtain ⟨wi, rfl⟩ : ∃ wi : World, wi = wr := ⟨_, rfl⟩
      by_cases hlj : j < t.ps.length
      ·have wI := ox.out.trans hU.out
       obtain ⟨xb, xo, rfl, gM⟩ := cK (HC9.out.keep (hU.out.kept _)) (k := j) (by rw [ng]; exact hlj)
       rw [CF hlj] at gM
       obtain ⟨P3, N3, e3, Fk, Fl⟩ := sY.out.keep (wI.kept _)
       injection e3 with e3
       have e4 : Value.slice pp t.ps.length pc = P3 ∧ Value.slice np t.ns.length nc = N3 := by simpa using e3
       obtain ⟨rfl, rfl⟩ := e4
       obtain ⟨pb, po, rfl, jN⟩ := cK Fk hlj
       obtain ⟨sb, so, rfl, hcs⟩ := bz Fl (k := j) (by rw [mA.out.2.1]; exact hlj)
       have dL := (bH.out.trans (Ns.out.trans wI)).cell eH.out
       have c0 := hU.out.cell yP.out
       have c1 := hU.out.cell GC.out
       have CJ := aa (QC.out j hlj)
       have kX := aa hlj
       have yV := aa hU.out
       have j0 : (0 : Int) ≤ (j : Int) := by omega
       have j1 : (j : Int) < (t.ps.length : Int) := by omega
       have j2 : (j : Int) < 64 := by omega
       have j3 : (j : Int) < (t.ns.length : Int) := by have := mA.out.2.1; omega
       have j4 : j < t.ns.length := by have := mA.out.2.1; omega
       have ij : Hid (gs t.ns j ∈ names → ∀ m, Calls Tryz.prog 32 #[.slice (some ⟨Co, Vx, none⟩) names.length cap, .string (gs t.ns j)] (wi.drewN m) fun e w'' => e = .returned (.bool true) ∧ ∃ m', w'' = wi.drewN m') := fun hm m => by
        have h2 := eN Any (wi.drewN m) _ names.length (gs names) (gs t.ns j) (ah.keep HH.out ((bH.out.trans (Ns.out.trans (wI.trans (Up.drewN _ m)))).kept _)) (by have := fD.out; omega)
        refine h2.mono fun e w' ⟨h3, h4⟩ => ⟨?_, m, h4.symm⟩
        rw [h3]
        obtain ⟨b, hb, e5⟩ := List.getElem_of_mem hm
        rw [nv hb (decide_eq_true (by simp [gs, hb, e5]))]
       clear hlj wI e3 Fk Fl hU
       generalize hkn : (aS t.ps j).length = kn at *
       replace gM : wi.cell? ⟨xb, xo + j, none⟩ = some (.int .i64 (kn : Int)) := by have h := gM; rw [show bI t.ps j t.ps.length = aS t.ps j from rfl, hkn] at h; exact h
       generalize gs t.ns j = nj at *
       generalize gi t.ps j = pj at *
       rcases CJ.out with ⟨rfl, hin, JJ⟩ | rfl
       ·have JK := aa (ij.out hin)
        replace gM : wi.cell? ⟨xb, xo + j, none⟩ = some (.int .i64 0) := gM
        by_cases hq : nj = gs names 0
        ·have ig := JJ hq
         subst ig
         have d8 : (nj.toList == (gs names 0).toList) = true := by rw [hq]; simp
         clear JJ hin CJ ij hkn hq
         go_wp2_with fail
         go_big_quiet (with_reducible exact JK.out _)
         go_wp2_with fail
         go_roundw
         case rel => exact ⟨j + 1, kX.out, by go_num, yV.out.trans (Up.drewN _ _)⟩
         case measure => have := kX.out; simp [intOf]; omega
        ·have d8 : (nj.toList == (gs names 0).toList) = false := by
          rw [beq_eq_false_iff_ne]
          intro e
          rw [toList_data, toList_data, Array.toList_inj] at e
          exact hq (by cases nj; cases hh : gs names 0; rw [hh] at e; simp at e; rw [e])
         clear JJ hin CJ ij hkn hq
         go_wp2_with fail
         go_big_quiet (with_reducible exact JK.out _)
         go_wp2_with fail
         go_roundw
         case rel => exact ⟨j + 1, kX.out, by go_num, yV.out.trans (Up.drewN _ _)⟩
         case measure => have := kX.out; simp [intOf]; omega
       ·clear CJ ij hkn
        replace gM : wi.cell? ⟨xb, xo + j, none⟩ = some (.int .i64 2) := gM
        go_wp2_with fail
        go_big_quiet (fail)
        go_wp2_with fail
        go_roundw
        case rel => exact ⟨j + 1, kX.out, by go_num, yV.out.trans (Up.drewN _ _)⟩
        case measure => have := kX.out; simp [intOf]; omega
      ·obtain rfl : j = t.ps.length := by omega
       have Qb : Hid (aC w2.heap.size 9 wi (.slice (some ⟨g8, 0, none⟩) (k + 1) gW) (((aM names).take (k + 1)).map fun q => Value.string (aK q))) := by
        unfold Hid
        rw [gV.out]
        exact QJ.out.eD fun b hb => Below.block hU.out b (aF QJ.out hb).2
       have yl := aa (ox.out.trans hU.out)
       clear hU hlj hj
       go_wp2_with fail
       go_roundw
       case rel => exact ⟨k + 1, aV.out, by go_num, Qb.out, yl.out⟩
       case measure => have := aV.out; simp [intOf]; omega
    ·obtain ⟨gx, rfl, hpv⟩ := HPV.out (by omega)
     have hpv : w6.cell? ⟨gx, k - 1, none⟩ = some (.string (aK (qA names (k - 1)))) := kC.out.cell hpv
     have hrs := O7.out (by omega)
     have d7 : decide ((0 : Int) < (k : Int)) = true := by simp; omega
     have k9 : wrap64 ((k : Int) - 1) = ((k - 1 : Nat) : Int) := by unfold wrap64; omega
     have k8 : ((k - 1 : Nat) : Int) < (k : Int) := by omega
     have k7 : k - 1 < k := by omega
     clear HPV O7
     go_wp2_with (at_builtin; refine fM w6 rfl _ _ 22 rfl w2.heap.size 9 (.string ⟨#[]⟩) 16 Tryz.underlying22 Tryz.fo rfl (by decide) LX.out rfl (.string (aK (qA names k))) rfl rfl k dG.out Vu.out ct.out ?_; intro g8 gW w8 bU cG fq; have sI := aa bU; have iX := aa (Below.grown (show Below w2.heap.size w2 w6 from xw.out) cG ct.out (fun b hb => (aF LX.out hb).1)); have xe : Hid (w8.heap[wo.heap.size]? = w6.heap[wo.heap.size]?) := cG.block _ (World.block_lt_of_cell? w6 _ c0) (fun e => by have := (aF Ai.out e.symm).2; omega); clear bU cG fq; replace c0 := (World.cell?_of_block (a := ⟨wo.heap.size, 0, none⟩) xe.out).trans c0; replace c1 := (World.cell?_of_block (a := ⟨wo.heap.size, 1, none⟩) xe.out).trans c1)
     have iX : Hid (Up w2 w8) := iX.out
     have CI := aa (yZ _ w8 _ t (sY.out.keep (iX.out.kept _)) lU.out.1 lU.out.2)
     refine CI.out.mono ?_
     rintro e w9 ⟨iH, v9, rfl, JI⟩
     obtain ⟨cp, cc, rfl, -⟩ := JI.form (n := t.ps.length) (by rw [List.length_map, ng])
     have HC9 : Hid (aq Any w9 (.slice cp t.ps.length cc) (fF t.ps t.ps.length)) := by
      have h := JI.ints
      unfold aq at h ⊢
      rw [ng] at h ⊢
      exact h.sub fun _ _ _ => trivial
     have ox := aa (iX.out.trans iH)
     have yP := aa (iH.cell c0)
     have GC := aa (iH.cell c1)
     have QJ := aa (sI.out.eD fun b hb => Below.block iH b (aF sI.out hb).2)
     clear iH JI CI sI xe c0 c1 LX Ai su
     have p64 := lU.out.2
     go_wp2_with fail
     go_loopw [14, 15, 104] (fun _ _ i wr => ∃ j : Nat, j ≤ t.ps.length ∧ i = .int .i64 j ∧ Hid (Up w9 wr)) (fun _ _ i _ => t.ps.length - (intOf i).toNat)
     case atStart => exact ⟨0, Nat.zero_le _, rfl, Up.refl _⟩
     case round =>
      obtain ⟨j, hj, rfl, hU⟩ := hrel
      obtain ⟨wi, rfl⟩ : ∃ wi : World, wi = wr := ⟨_, rfl⟩
      by_cases hlj : j < t.ps.length
      ·have wI := ox.out.trans hU.out
       obtain ⟨xb, xo, rfl, gM⟩ := cK (HC9.out.keep (hU.out.kept _)) (k := j) (by rw [ng]; exact hlj)
       rw [CF hlj] at gM
       obtain ⟨P3, N3, e3, Fk, Fl⟩ := sY.out.keep (wI.kept _)
       injection e3 with e3
       have e4 : Value.slice pp t.ps.length pc = P3 ∧ Value.slice np t.ns.length nc = N3 := by simpa using e3
       obtain ⟨rfl, rfl⟩ := e4
       obtain ⟨pb, po, rfl, jN⟩ := cK Fk hlj
       obtain ⟨sb, so, rfl, hcs⟩ := bz Fl (k := j) (by rw [mA.out.2.1]; exact hlj)
       have dL := (bH.out.trans (Ns.out.trans wI)).cell eH.out
       have c0 := hU.out.cell yP.out
       have c1 := hU.out.cell GC.out
       have CJ := aa (QC.out j hlj)
       have kX := aa hlj
       have yV := aa hU.out
       have j0 : (0 : Int) ≤ (j : Int) := by omega
       have j1 : (j : Int) < (t.ps.length : Int) := by omega
       have j2 : (j : Int) < 64 := by omega
       have j3 : (j : Int) < (t.ns.length : Int) := by have := mA.out.2.1; omega
       have j4 : j < t.ns.length := by have := mA.out.2.1; omega
       have ij : Hid (gs t.ns j ∈ names → ∀ m, Calls Tryz.prog 32 #[.slice (some ⟨Co, Vx, none⟩) names.length cap, .string (gs t.ns j)] (wi.drewN m) fun e w'' => e = .returned (.bool true) ∧ ∃ m', w'' = wi.drewN m') := fun hm m => by
        have h2 := eN Any (wi.drewN m) _ names.length (gs names) (gs t.ns j) (ah.keep HH.out ((bH.out.trans (Ns.out.trans (wI.trans (Up.drewN _ m)))).kept _)) (by have := fD.out; omega)
        refine h2.mono fun e w' ⟨h3, h4⟩ => ⟨?_, m, h4.symm⟩
        rw [h3]
        obtain ⟨b, hb, e5⟩ := List.getElem_of_mem hm
        rw [nv hb (decide_eq_true (by simp [gs, hb, e5]))]
       clear hlj wI e3 Fk Fl hU
       generalize hkn : (aS t.ps j).length = kn at *
       replace gM : wi.cell? ⟨xb, xo + j, none⟩ = some (.int .i64 (kn : Int)) := by have h := gM; rw [show bI t.ps j t.ps.length = aS t.ps j from rfl, hkn] at h; exact h
       generalize gs t.ns j = nj at *
       generalize gi t.ps j = pj at *
       rcases CJ.out with ⟨rfl, hin, JJ⟩ | rfl
       ·have JK := aa (ij.out hin)
        replace gM : wi.cell? ⟨xb, xo + j, none⟩ = some (.int .i64 0) := gM
        by_cases hq : nj = gs names 0
        ·have ig := JJ hq
         subst ig
         have d8 : (nj.toList == (gs names 0).toList) = true := by rw [hq]; simp
         clear JJ hin CJ ij hkn hq
         go_wp2_with fail
         go_big_quiet (with_reducible exact JK.out _)
         go_wp2_with fail
         go_roundw
         case rel => exact ⟨j + 1, kX.out, by go_num, yV.out.trans (Up.drewN _ _)⟩
         case measure => have := kX.out; simp [intOf]; omega
        ·have d8 : (nj.toList == (gs names 0).toList) = false := by
          rw [beq_eq_false_iff_ne]
          intro e
          rw [toList_data, toList_data, Array.toList_inj] at e
          exact hq (by cases nj; cases hh : gs names 0; rw [hh] at e; simp at e; rw [e])
         clear JJ hin CJ ij hkn hq
         go_wp2_with fail
         go_big_quiet (with_reducible exact JK.out _)
         go_wp2_with fail
         go_roundw
         case rel => exact ⟨j + 1, kX.out, by go_num, yV.out.trans (Up.drewN _ _)⟩
         case measure => have := kX.out; simp [intOf]; omega
       ·clear CJ ij hkn
        replace gM : wi.cell? ⟨xb, xo + j, none⟩ = some (.int .i64 2) := gM
        go_wp2_with fail
        go_big_quiet (fail)
        go_wp2_with fail
        go_roundw
        case rel => exact ⟨j + 1, kX.out, by go_num, yV.out.trans (Up.drewN _ _)⟩
        case measure => have := kX.out; simp [intOf]; omega
      ·obtain rfl : j = t.ps.length := by omega
       have Qb : Hid (aC w2.heap.size 9 wi (.slice (some ⟨g8, 0, none⟩) (k + 1) gW) (((aM names).take (k + 1)).map fun q => Value.string (aK q))) := by
        unfold Hid
        rw [gV.out]
        exact QJ.out.eD fun b hb => Below.block hU.out b (aF QJ.out hb).2
       have yl := aa (ox.out.trans hU.out)
       clear hU hlj hj
       go_wp2_with fail
       go_roundw
       case rel => exact ⟨k + 1, aV.out, by go_num, Qb.out, yl.out⟩
       case measure => have := aV.out; simp [intOf]; omega
   ·obtain rfl : k = (allT names).length := by omega
    have yl := aa (bw.out.trans dH)
    clear hI hO dH hlt
    go_wp2_with fail
    refine (Fj.out _).mono ?_
    rintro e w' ⟨rfl, mZ⟩
    go_wp2_with fail
    go_ret
    exact ⟨rfl, yl.out.trans mZ⟩
end Go.Proofs.YthgabkgmkolobaaGreat
