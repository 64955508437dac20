/- The arguments of a law, opened; the frame of a law's proof. The walk of OptimaltreeLeast. -/
import Derived.Test.YthgabkgmkolobaaGreatRows
import Derived.WalkKit
import Derived.ProofKit
import Derived.OpenShut
import Derived.ShutString
import Derived.ChangeOld
import Derived.Below
import Derived.Deep.Matrix
import Derived.Lib.SmallJoins
import Derived.RangeFuncNested
import Derived.RangeFuncBound
import Derived.RangeFuncCalls
import Derived.RangeFuncLeaves
import Derived.Shelf.Abstract
import Derived.Shelf.RegionOpen
import Derived.OwnWalkIn
import Derived.TacticsInMore
import Derived.LoopNIn
import Derived.LoopIn
import Derived.Sort.QuietIn
import Derived.Stop.RegionWithIn
import Derived.Test.YthgabkgmkolobaaGreatProg
import Derived.WalkSpells
import Derived.WalkLawsBesides
import Derived.Deep.OwnRows
import Derived.Deep.QuietTactic
import Derived.BigQuiet
import Derived.Lib.Hide
import Derived.Shelf.Small.Strs
import Derived.Maps.AppendAt
import Derived.Deep.AppendLies
import Derived.Test.YthgabkgmkolobaaGreatQ45
import Derived.Test.YthgabkgmkolobaaGreatQ6
import Derived.Test.YthgabkgmkolobaaGreatQ5
import Derived.Test.YthgabkgmkolobaaGreatQ3
import Derived.Test.YthgabkgmkolobaaGreatQ2
import Derived.Test.YthgabkgmkolobaaGreatQ1
import Derived.Test.YthgabkgmkolobaaGreatQ49
import Derived.Test.YthgabkgmkolobaaGreatQ4
import Derived.Lib.SliceRun
import Derived.RangeFuncWrites
import Derived.RangeFuncKeeps
import Derived.Laws.EntriesVeiled
import Derived.Sort.OwnSorted
import Derived.Lib.Bytealg
import Derived.Sort.Statements
import Derived.MapKept
import Derived.Laws.Pointers
import Derived.Shelf.SlGeneric
import Derived.Shelf.SlSortCmp.NoneTotal
import Derived.Deep.RegionHeld3
import Derived.OrdersHeld
import Derived.Deep.RegionHeld
import Derived.StillTailTactics
import Derived.OrdersIn
import Derived.StillTail
import Derived.Deep.CutRange
import Derived.Laws.Bits64b
import Derived.Laws.BitsAllLaws
import Derived.Shelf.SortM.Plain
import Derived.Shelf.SortM.SortNone
import Derived.Sort.OwnSortedInts
import Derived.Shelf.SlLaysM
import Derived.Ground.SlgmProg
import Derived.Maps.OwnIn
import Derived.Shelf.Slices.In.SortNone
import Derived.Shelf.Lays
import Derived.Shelf.Sort.Plain
import Derived.Ground.NamesProg
import Derived.Lib.IndexAny
import Derived.Lib.OthersKept
import Derived.Shelf.Strings.IndexAnyAll
import Derived.Ground.Names2Prog
import Derived.Lib.MinMax
import Derived.Shelf.Strings.BuilderK
import Derived.Laws.RangeAny
import Derived.WalkMore
import Derived.Shelf.Small.Utf8
import Derived.Shelf.SlSortCmp.WholeK
import Derived.Ground.SlsfProg
import Derived.Test.YthgabkgmkolobaaGreatQ52
import Derived.Test.YthgabkgmkolobaaGreatQ26
import Derived.Test.YthgabkgmkolobaaGreatQ24
import Derived.Test.YthgabkgmkolobaaGreatQ22
import Derived.Test.YthgabkgmkolobaaGreatQ21
import Derived.Test.YthgabkgmkolobaaGreatQ16
import Derived.Test.YthgabkgmkolobaaGreatQ15
import Derived.Test.YthgabkgmkolobaaGreatQ14
import Derived.Test.YthgabkgmkolobaaGreatQ13
import Derived.Test.YthgabkgmkolobaaGreatQ12
import Derived.Test.YthgabkgmkolobaaGreatQ10
import Derived.Test.YthgabkgmkolobaaGreatQ8
import Derived.Test.YthgabkgmkolobaaGreatQ7
import Derived.Test.YthgabkgmkolobaaGreatQ9
import Derived.Test.YthgabkgmkolobaaGreatQ11
import Derived.Test.YthgabkgmkolobaaGreatQ19
import Derived.Test.YthgabkgmkolobaaGreatQ23
import Derived.Test.YthgabkgmkolobaaGreatQ50
import Derived.Test.YthgabkgmkolobaaGreatQ17
import Derived.Test.YthgabkgmkolobaaGreatQ25
import Derived.Test.YthgabkgmkolobaaGreatQ41
import Derived.Test.YthgabkgmkolobaaGreatQ38
import Derived.Test.YthgabkgmkolobaaGreatQ35
import Derived.Test.YthgabkgmkolobaaGreatQ34
import Derived.Test.YthgabkgmkolobaaGreatQ33
import Derived.Test.YthgabkgmkolobaaGreatQ32
import Derived.Test.YthgabkgmkolobaaGreatQ31
import Derived.Test.YthgabkgmkolobaaGreatQ30
import Derived.Test.YthgabkgmkolobaaGreatQ29
import Derived.Test.YthgabkgmkolobaaGreatQ27
import Derived.Test.YthgabkgmkolobaaGreatQ28
import Derived.Test.YthgabkgmkolobaaGreatQ51
set_option maxRecDepth 100000
namespace Go.Proofs.YthgabkgmkolobaaGreat
section
open Go.ChangeShapes Go.WideShapes Go.ChangeAt Go.RowKit Go.Deep
section
variable {H : Type} {enc : TypeId × Value → H} {W : World}
theorem NH {fuel : Nat} {v : Value} {x : DataW H × List MemPlace} (h : DataW.trod enc Tryz.prog W 0 (fun _ => true) true fuel 26 [v] = some x) : ∃ xs : List Int, aq Any W v xs ∧ xs.length ≤ 9223372036854775807 := by
 rcases open_ints Tryz.underlying26 Tryz.underlying3 (by kernel_rfl) h with ⟨hcs, _⟩ | ⟨a, l, c, zs, hcs, _, hl, hm, hz, _, hcell, _⟩
 ·obtain rfl : v = .slice none 0 0 := by simpa using hcs
  exact ⟨[], ⟨none, 0, rfl, Nat.le_refl _, .inl rfl⟩, by simp⟩
 ·obtain rfl : v = .slice (some a) l c := by simpa using hcs
  simp only [if_true] at hz
  have hlen : (zs.take l).length = l := by simp; omega
  refine ⟨zs.take l, ⟨some a, c, by rw [hlen], by rw [hlen]; exact hl, ?_⟩, by rw [hlen]; exact vp (Nat.le_trans hl hm)⟩
  by_cases h0 : l = 0
  ·exact .inl (by rw [hlen]; exact h0)
  ·obtain ⟨b, off, rfl, hc⟩ := ints_at hcell (by omega)
   refine .inr ⟨b, off, rfl, trivial, fun k hk => ?_⟩
   rw [hlen] at hk
   rw [hc k (by omega)]
   simp [gi, hk]
theorem NI {fuel : Nat} {v : Value} {x : DataW H × List MemPlace} (h : DataW.trod enc Tryz.prog W 0 (fun _ => true) true fuel 23 [v] = some x) : ∃ xs : List (List Int), aU Any W v xs ∧ xs.length ≤ 9223372036854775807 ∧ ∀ k, (gl xs k).length ≤ 9223372036854775807 := by
 rcases open_int_rows Tryz.underlying23 Tryz.underlying26 Tryz.underlying3 (by kernel_rfl) (by kernel_rfl) h with ⟨hcs, _⟩ | ⟨a, l, c, A, L, C, Z, hcs, _, hl, hm, _, hr⟩
 ·obtain rfl : v = .slice none 0 0 := by simpa using hcs
  exact ⟨[], ⟨fun _ => undef, ⟨none, 0, rfl, Nat.le_refl _, .inl rfl⟩, fun k hk => absurd hk (Nat.not_lt_zero _)⟩, by simp, fun k => by simp [gl]⟩
 ·obtain rfl : v = .slice (some a) l c := by simpa using hcs
  have hlen : ((List.range l).map fun r => (Z r).take (L r)).length = l := by simp
  have zM : ∀ k, k < l → gl ((List.range l).map fun r => (Z r).take (L r)) k = (Z k).take (L k) := fun k hk => by simp [gl, hk]
  have Ch : ∀ k, k < l → ((Z k).take (L k)).length = L k := fun k hk => by obtain ⟨_, h1, _, h3, _⟩ := hr k (by omega); simp; omega
  refine ⟨(List.range l).map fun r => (Z r).take (L r), ⟨fun k => .slice (A k) (L k) (C k), ⟨some a, c, by rw [hlen], by rw [hlen]; exact hl, ?_⟩, fun k hk => ?_⟩, by rw [hlen]; exact vp (Nat.le_trans hl hm), fun k => ?_⟩
  ·by_cases h0 : l = 0
   ·exact .inl (by rw [hlen]; exact h0)
   ·obtain ⟨b, off, spot⟩ := a
    have hspot : spot = none := by simpa [Addr.add] using World.cell?_spot (hr 0 (by omega)).1
    subst hspot
    refine .inr ⟨b, off, rfl, trivial, fun k hk => ?_⟩
    rw [hlen] at hk
    rw [← add_plain]; exact (hr k (by omega)).1
  ·rw [hlen] at hk
   obtain ⟨_, h1, h2, h3, _, h5, h6⟩ := hr k (by omega)
   rw [zM k hk]
   refine ⟨A k, C k, by rw [Ch k hk], by rw [Ch k hk]; exact h1, ?_⟩
   by_cases h0 : L k = 0
   ·exact .inl (by rw [Ch k hk]; exact h0)
   ·cases hA : A k with
    | none => have := h5 hA; omega
    | some a' =>
     obtain ⟨_, h7⟩ := h6 a' hA
     obtain ⟨b, off, rfl, hc⟩ := ints_at (zs := Z k) (k := .i64) (fun i hi => h7 i (by omega)) (by omega)
     refine .inr ⟨b, off, rfl, trivial, fun j hj => ?_⟩
     rw [Ch k hk] at hj
     rw [hc j (by omega)]
     simp [gi, hj]
  ·by_cases hk : k < l
   ·rw [zM k hk, Ch k hk]
    obtain ⟨_, h1, h2, _⟩ := hr k (by omega)
    exact vp (Nat.le_trans h1 h2)
   ·have : gl ((List.range l).map fun r => (Z r).take (L r)) k = [] := by simp [gl, hk]
    rw [this]; simp
theorem NJ {v : Value} {d : DataW H} {p : List MemPlace} {base : Nat} (hv : Value.okWide Tryz.prog W .any base 39 v) (h : DataW.Trod enc Tryz.prog W 0 (fun _ => true) true 39 v d p) :
  ∃ t : ay, aA Any W v t ∧ t.ps.length ≤ 9223372036854775807 ∧ t.ns.length ≤ 9223372036854775807 ∧ ∀ k, (gs t.ns k).size ≤ 9223372036854775807 := by
 obtain ⟨c0, c1, y0, y1, m, rfl, _, _, h0, h1⟩ := Joins.open_agg2 Tryz.underlying39 (by kernel_rfl) (by kernel_rfl) hv h
 obtain ⟨ps, hp, hpl⟩ := NH h0
 obtain ⟨ns, hn, hnl, uq⟩ := CB h1
 exact ⟨⟨ps, ns⟩, ⟨c0, c1, rfl, hp, hn⟩, hpl, hnl, uq⟩
theorem NK {v : Value} {d : DataW H} {p : List MemPlace} {base : Nat} (hv : Value.okWide Tryz.prog W .any base 23 v) (h : DataW.Trod enc Tryz.prog W 0 (fun _ => true) true 23 v d p) : ∃ xs : List (List Int), aU Any W v xs ∧ xs.length ≤ 9223372036854775807 ∧ ∀ k, (gl xs k).length ≤ 9223372036854775807 := by
 obtain ⟨a, l, c, rfl⟩ := okWide_slice Tryz.underlying23 hv
 obtain ⟨n, hn⟩ := Jy rfl h
 exact NI hn
end
end
section
open Go.RowKit Go.Deep
theorem JY {t : ay} {n : Nat} (h : wQ t n = false) (_ : n ≤ 64) : t.ps.length ≤ 66 ∧ t.ns.length ≤ 68 ∧ ∀ k, (gs t.ns k).size ≤ 20 := by
 unfold wQ at h
 rw [Bool.or_eq_false_iff, Bool.or_eq_false_iff, Bool.or_eq_false_iff] at h
 obtain ⟨⟨⟨h1, h2⟩, h3⟩, h4⟩ := h
 have h2 := of_decide_eq_false h2
 have h3 := of_decide_eq_false h3
 refine ⟨by omega, by omega, fun k => ?_⟩
 by_cases hk : k < t.ns.length
 ·have := of_decide_eq_false (any_false h4 hk); omega
 ·have : gs t.ns k = ByteArray.empty := by simp [gs, hk]
  rw [this]; exact Nat.zero_le _
theorem NL {names : List ByteArray} {states : List (List Int)} (hc : k6 names states) : 0 < (dI names states).length ∧ (dI names states).length ≤ 15 ∧ 0 ≤ bT names states ∧ bT names states ≤ 409600000 ∧ (∀ k, k < (dI names states).length → gt (dI names states) k ∈ allT names ∧ bG (gt (dI names states) k) names states = bT names states) ∧ sV names states (dI names states) (bT names states) = 0 ∧ sV names states (dI names states) (bT names states + 1) = 18 := by
 obtain ⟨_, h0, t, ht, e⟩ := ug hc
 have hm : t ∈ dI names states := List.mem_filter.2 ⟨ht, decide_eq_true e⟩
 have hce := (wA hc.nm.hi).2 hc
 obtain ⟨k, hk, ek⟩ := Q0 ht
 have hb := Jn hc hk
 unfold oy at hb
 rw [ek, e] at hb
 have En : nZ names states = bT names states := by unfold nZ; rw [if_pos hce]
 have hbl : ja names states = dI names states := by unfold ja; rw [if_pos hce]
 refine ⟨List.length_pos_of_mem hm, Nat.le_trans (List.length_filter_le _ _) (Jz hc.nm).2, h0, hb.2, fun k hk => ?_, ?_, ?_⟩
 ·obtain ⟨h1, h2⟩ := List.mem_filter.1 (sD hk)
  exact ⟨h1, of_decide_eq_true h2⟩
 ·unfold sV; rw [if_neg (by rw [hce]; simp), En, hbl, if_pos ⟨rfl, rfl⟩]
 ·unfold sV; rw [if_neg (by rw [hce]; simp), En, hbl, if_neg fun h => by omega]
set_option maxHeartbeats 8000000 in
theorem KI (w : World) (v vs vt : Value) (names : List ByteArray) (states : List (List Int)) (t : ay) (h : ah Any w v names) (hS : aU Any w vs states) (hT : aA Any w vt t)
  (hn : names.length ≤ 9223372036854775807) (hz : ∀ k, (gs names k).size ≤ 9223372036854775807) (hm : states.length ≤ 9223372036854775807) (hr : ∀ k, (gl states k).length ≤ 9223372036854775807) (hp : t.ps.length ≤ 9223372036854775807) (hnt : t.ns.length ≤ 9223372036854775807) (hzt : ∀ k, (gs t.ns k).size ≤ 9223372036854775807) :
  Calls Tryz.prog 8 #[v, vs, vt] w fun e w' => e = .returned (.bool true) ∧ Up w w' := by
 obtain ⟨p, cap, rfl, hcap, -⟩ := aB.open h
 have h : ah Any w (.slice p names.length cap) names := h
 obtain ⟨sp, sc, rfl, -, -⟩ := eR hS
 obtain ⟨P, N, rfl, hP, hN⟩ := hT
 obtain ⟨pp, pc, rfl, -, -⟩ := aB.open hP
 obtain ⟨np, nc, rfl, -, -⟩ := aB.open hN
 have hP : aq Any w (.slice pp t.ps.length pc) t.ps := hP
 have hN : ah Any w (.slice np t.ns.length nc) t.ns := hN
 have mz := Up.alloc w (.cells #[.slice pp t.ps.length pc, .slice np t.ns.length nc] 39)
 have nY := aa mz
 have hs0 : (w.alloc (.cells #[.slice pp t.ps.length pc, .slice np t.ns.length nc] 39)).heap.size = w.heap.size + 1 := World.size_alloc _ _
 have Ak := aa hs0
 have gj := aa (fh (w := w) (P := .slice pp t.ps.length pc) (N := .slice np t.ns.length nc) (T := 39))
 have uI : Hid (aA (fun b => b < w.heap.size) (w.alloc (.cells #[.slice pp t.ps.length pc, .slice np t.ns.length nc] 39)) (.agg #[.slice pp t.ps.length pc, .slice np t.ns.length nc]) t) := (aA.sub (T := fun b => b < w.heap.size) ⟨_, _, rfl, hP, hN⟩ fun b _ hl => hl).keep (mz.kept _)
 have qf := aa (TJ Any Any _ _ _ names states (ah.keep h (mz.kept _)) (aU.keep hS (mz.kept _)) hn hz hm hr)
 have tB := aa (fun W (hW : Up (w.alloc (.cells #[.slice pp t.ps.length pc, .slice np t.ns.length nc] 39)) W) => QW _ W _ t 16 (uI.out.keep (hW.kept _)) hp hnt hzt)
 have Fj : Hid (∀ W, Calls Tryz.prog 26 #[] W fun e w' => e = .returned (.bool true) ∧ Up W w') := Ff
 have HFO : Hid (jr names states = true → Q2 names states) := Q3
 have LU : Hid (wQ t 16 = false → t.ps.length ≤ 66 ∧ t.ns.length ≤ 68 ∧ ∀ k, (gs t.ns k).size ≤ 20) := fun h => JY h (by decide)
 have HH := aa h
 have HS := aa hS
 obtain ⟨b0, b1, b2, b3⟩ := boxed gj.out
 clear h hS hz hr hn hm hp hnt hzt hP hN mz hs0
 go_enter Tryz.func8, Tryz.ntmps8
 go_wp2_with fail
 generalize w.alloc (.cells #[.slice pp t.ps.length pc, .slice np t.ns.length nc] 39) = w1 at *
 refine qf.out.mono ?_
 rintro e w2 ⟨rfl, aG⟩
 have bw := aa aG
 replace b0 := aG.cell b0
 replace b1 := aG.cell b1
 have HGR2 := aa (tB.out w2 aG)
 clear qf tB aG b2 b3
 cases hf : jr names states
 ·clear hf HFO
  go_wp2_with fail
  refine (Fj.out _).mono ?_
  rintro e w' ⟨rfl, mZ⟩
  go_wp2_with fail
  go_ret
  exact ⟨rfl, (nY.out.trans bw.out).trans mZ⟩
 have mQ := aa (HFO.out hf)
 clear hf HFO
 go_wp2_with fail
 refine HGR2.out.mono ?_
 rintro e w3 ⟨rfl, bX⟩
 have bX : Up w2 w3 := bX
 have dc := aa (bw.out.trans bX)
 replace b0 := bX.cell b0
 replace b1 := bX.cell b1
 clear HGR2 bX
 cases hg : wQ t 16
 case true =>
  clear hg LU
  go_wp2_with fail
  refine (Fj.out _).mono ?_
  rintro e w' ⟨rfl, mZ⟩
  go_wp2_with fail
  go_ret
  exact ⟨rfl, (nY.out.trans dc.out).trans mZ⟩
 have nO := aa (LU.out hg)
 have eY := aa (r5 _ w3 _ t (uI.out.keep (dc.out.kept _)) (by have := nO.out; omega) (by have := nO.out; omega) (fun k => by have := nO.out.2.2 k; omega))
 clear hg LU
 go_wp2_with fail
 refine eY.out.mono ?_
 rintro e w4 ⟨rfl, cF⟩
 have cF : Up w3 w4 := cF
 have jQ := aa (dc.out.trans cF)
 replace b0 := cF.cell b0
 replace b1 := cF.cell b1
 clear eY cF bw dc
 by_cases ht : az t = 0
 case neg =>
  have d1 : (az t != 0) = true := by simp [ht]
  generalize az t = te at *
  clear ht
  go_wp2_with fail
  refine (Fj.out _).mono ?_
  rintro e w' ⟨rfl, mZ⟩
  go_wp2_with fail
  go_ret
  exact ⟨rfl, (nY.out.trans jQ.out).trans mZ⟩
 rw [ht]
 have sj := aa ht
 have hc := mQ.out.cs
 have hnm := hc.nm
 have CG := hnm.hi
 have hnl := hnm.lo
 have HC := aa hc
 have fD := aa (And.intro hnl CG)
 have HZ : Hid (∀ k, (gs names k).size ≤ 70000) := fun k => Nat.le_trans (gI (M := 20) (fun x hx => o7 (hnm.nm x hx)) k) (by decide)
 have sZ : Hid (states.length ≤ 1000000 ∧ ∀ k, (gl states k).length ≤ 1000000) := ⟨by have := hc.len; omega, fun k => by
  by_cases hk : k < states.length
  ·have := ((Cl hc.ag).2 k hk).1; have := mQ.out.wd; omega
  ·have : gl states k = [] := by simp [gl, hk]
   rw [this]; simp⟩
 have hce := (wA CG).2 hc
 have qJ := aa (Bf Any w4 _ _ names states (ah.keep HH.out ((nY.out.trans jQ.out).kept _)) (by omega) HZ.out (aU.keep HS.out ((nY.out.trans jQ.out).kept _)) sZ.out.1 sZ.out.2 (.inl CG))
 unfold wF nZ ja at qJ
 rw [hce, if_pos rfl, if_pos rfl] at qJ
 have Fw := aa (NL hc)
 have Al : Hid (Dx states = qw states ∧ Dw states = 0 ∧ qw states ≤ bT names states) := ⟨by unfold Dx; rw [if_pos hc.ag], by unfold Dw; rw [if_pos hc.ag], KG hc⟩
 clear ht hc hnm CG hnl hce mQ
 go_wp2_with fail
 refine qJ.out.mono ?_
 rintro e w5 ⟨gp, v5, rfl, LS⟩
 obtain ⟨p5, c5, rfl, -⟩ := gz LS
 have iT := aa (jQ.out.trans gp)
 have oo := aa LS
 have VD := aa (Fc Any w5 _ states (aU.keep HS.out ((nY.out.trans iT.out).kept _)) sZ.out.1 sZ.out.2)
 unfold CA at VD
 rw [Al.out.1, Al.out.2.1] at VD
 replace b0 := gp.cell b0
 replace b1 := gp.cell b1
 clear gp LS qJ jQ
 go_wp2_with fail
 refine VD.out.mono ?_
 rintro e w6 ⟨rfl, cU⟩
 have xw := aa (iT.out.trans cU)
 have su := aa (oo.out.keep (cU.kept _))
 replace b0 := cU.cell b0
 replace b1 := cU.cell b1
 have CI := aa (fun W (hW : Up w6 W) sc => Xb Any W _ _ _ names states (dI names states) sc (ah.keep HH.out ((nY.out.trans (xw.out.trans hW)).kept _)) (by have := fD.out; omega) HZ.out (aU.keep HS.out ((nY.out.trans (xw.out.trans hW)).kept _)) sZ.out.1 sZ.out.2 (.inl fD.out.2) (su.out.keep (hW.kept _)) (fun k => by
  by_cases hk : k < (dI names states).length
  ·obtain ⟨ho, hps, uq, _⟩ := wG HC.out.nm (Fw.out.2.2.2.2.1 k hk).1
   have := fD.out; omega
  ·have : gt (dI names states) k = ⟨[], []⟩ := by simp [gt, hk]
   rw [this]; exact ⟨Nat.zero_le _, Nat.zero_le _⟩))
 have TN := aa (fun W hW => CI.out W hW (bT names states))
 have TP := aa (fun W hW => CI.out W hW (bT names states + 1))
 rw [Fw.out.2.2.2.2.2.1] at TN
 rw [Fw.out.2.2.2.2.2.2] at TP
 have e1 : (bT names states : Int) ≤ 409600000 := Fw.out.2.2.2.1
 have e0 : 0 ≤ bT names states := Fw.out.2.2.1
 have d1 : decide (bT names states < qw states) = false := by have := Al.out.2.2; simp; omega
 have Ls : ¬ bT names states < qw states := by have := Al.out.2.2; omega
 have d2 : (((dI names states).length : Int) == 0) = false := beq_eq_false_iff_ne.2 (by have := Fw.out.1; omega)
 clear cU oo iT VD CI
 go_wp2_with fail
 refine (TN.out w6 (Up.refl _)).mono ?_
 rintro e w7 ⟨rfl, xD⟩
 have HCH3 := aa (TP.out w7 xD)
 have HU7 := aa xD
 replace b0 := xD.cell b0
 replace b1 := xD.cell b1
 clear xD TN TP
 go_wp2_with fail
 refine HCH3.out.mono ?_
 rintro e w8 ⟨rfl, kY⟩
 have iX := aa (xw.out.trans (HU7.out.trans kY))
 have HT8 := aa (su.out.keep ((HU7.out.trans kY).kept _))
 replace b0 := kY.cell b0
 replace b1 := kY.cell b1
 have xe := aa (And.intro b0 b1)
 clear kY HCH3 HU7 su b0 b1
 go_wp2_with fail
 have yS : Hid (∀ (W : World) (v : Value) (t : ay), Up w W → aA Any W v t → kW t names → t.ps.length ≤ 1000000 → t.ns.length ≤ 1000000 → (∀ k, (gs t.ns k).size ≤ 70000) → Calls Tryz.prog 21 #[v, .slice p names.length cap, .slice sp states.length sc] W fun e w' => Up W w' ∧ e = .returned (.tuple #[.int .i64 (bG t names states), .int .i64 0])) := fun W v t hW hT hot q1 q2 q3 => by
  have h1 := NC Any W v _ _ t names states hT q1 q2 q3 (ah.keep HH.out (hW.kept _)) (by have := fD.out; omega) HZ.out (aU.keep HS.out (hW.kept _)) sZ.out.1 sZ.out.2 (.inl fD.out.2)
  have he : jq t names states = 0 := by
   unfold jq
   rw [if_neg (by rw [(wA fD.out.2).2 HC.out]; simp), if_neg (by rw [hot.te]; simp), if_pos ((Ck HC.out.nm hot.te).2 hot)]
  refine h1.mono fun e w' h => ?_
  unfold qm vv at h
  rw [he, if_pos rfl] at h
  exact h
 have dQ : Hid (∀ t, kW t names → bT names states ≤ bG t names states) := fun t ho => least_le HC.out ho
 clear d1 Ls d2 Al xw
 go_loopw [13, 14, 15, 83] (fun _ _ _ i wr => ∃ k : Nat, k ≤ (dI names states).length ∧ i = .int .i64 k ∧ Hid (Up w8 wr)) (fun _ _ _ i _ => (dI names states).length - (intOf i).toNat)
 case atStart => exact ⟨0, Nat.zero_le _, rfl, Up.refl _⟩
 case round =>
  obtain ⟨k, hk, rfl, hU⟩ := hrel
  obtain ⟨wo, rfl⟩ : ∃ wo : World, wo = wr := ⟨_, rfl⟩
  have k0 : (0 : Int) ≤ (k : Int) := by omega
  by_cases hlt : k < (dI names states).length
  ·have k1 : (k : Int) < ((dI names states).length : Int) := by omega
   have k2 : (k : Int) < 16 := by have := Fw.out.2.1; omega
   obtain ⟨tb, to', nR, nS, nT, nU, rfl, q0, q1, Cz⟩ := mY (HT8.out.keep (hU.out.kept _)) hlt
   obtain ⟨D2, hm2⟩ := Fw.out.2.2.2.2.1 k hlt
   obtain ⟨ho, hps, uq, hsz⟩ := wG HC.out.nm D2
   have gL := Up.alloc wo (.cells #[.slice nR (gt (dI names states) k).ps.length nS, .slice nT (gt (dI names states) k).ns.length nU] 39)
   have jT := aa (yS.out _ _ _ ((nY.out.trans iX.out).trans (hU.out.trans gL)) (Cz.keep (gL.kept _)) ho (by have := fD.out; omega) (by have := fD.out; omega) hsz)
   rw [hm2] at jT
   have uM := aa (hU.out.trans gL)
   have aV := aa hlt
   clear hU hlt Cz D2 hm2 ho hps uq hsz gL
   generalize gt (dI names states) k = x at *
   have d4 : (bT names states != bT names states) = false := by simp
   go_wp2_with fail
   refine jT.out.mono ?_
   rintro e w9 ⟨iH, rfl⟩
   have ox := aa (uM.out.trans iH)
   clear iH
   go_wp2_with fail
   go_roundw
   case rel => exact ⟨k + 1, aV.out, by go_num, ox.out⟩
   case measure => have := aV.out; simp [intOf]; omega
  ·obtain rfl : k = (dI names states).length := by omega
   have ox := aa (iX.out.trans hU.out)
   have b0 := hU.out.cell xe.out.1
   have b1 := hU.out.cell xe.out.2
   have UB := aa (Below.block ox.out w.heap.size (by have := Ak.out; omega))
   have xy := aa (rE _ wo _ t (uI.out.keep (ox.out.kept _)) (by have := nO.out; omega) (by have := nO.out; omega) (fun k => by have := nO.out.2.2 k; omega))
   have HU8o := aa hU.out
   clear hU hlt hk HT8
   go_wp2_with fail
   refine xy.out.mono ?_
   rintro e vz ⟨za, ⟨jY, -⟩ | ⟨-, lv, rfl, hlv⟩⟩
   ·exact absurd sj.out jY
   have za : Up wo vz := za
   obtain ⟨lp, lc, rfl, -, -⟩ := aB.open hlv
   have Bg := aa (ox.out.trans za)
   have HU8p := aa (HU8o.out.trans za)
   replace b0 := za.cell b0
   replace b1 := za.cell b1
   have TQ := aa ((Below.block za w.heap.size (by have := ox.out.size; have := Ak.out; omega)).trans (UB.out.trans gj.out))
   have hw1 := ox.out.size
   have Nf : Hid (aq (fun b => w.heap.size < b ∧ b < vz.heap.size) vz (.slice lp (aj t.ns).length lc) (aj t.ns)) := by
    have h : aq _ vz (.slice lp (aj t.ns).length lc) (aj t.ns) := hlv
    exact h.sub fun b hb hl => ⟨by have : wo.heap.size ≤ b := hb; have := Ak.out; omega, hl⟩
   clear za hlv xy UB hw1
   by_cases gO : (aj t.ns).length = names.length
   case neg =>
    have d5 : (((aj t.ns).length : Int) != (names.length : Int)) = true := by simp; omega
    clear gO
    go_wp2_with fail
    refine (Fj.out _).mono ?_
    rintro e w' ⟨rfl, mZ⟩
    go_wp2_with fail
    go_ret
    exact ⟨rfl, (nY.out.trans Bg.out).trans mZ⟩
   have d5 : (((aj t.ns).length : Int) != (names.length : Int)) = false := by simp; omega
   have dG := aa gO
   have hN10 := uI.out.keep (Bg.out.kept _)
   obtain ⟨P3, N3, e3, Fk, Fl⟩ := hN10
   injection e3 with e3
   have e4 : Value.slice pp t.ps.length pc = P3 ∧ Value.slice np t.ns.length nc = N3 := by simpa using e3
   obtain ⟨rfl, rfl⟩ := e4
   have Cu := aa (KB _ vz _ t.ns Fl (by have := nO.out; omega))
   have HPX := aa Fk
   obtain ⟨-, -, b2, b3⟩ := boxed TQ.out
   clear gO e3 Fk Fl
   go_wp2_with fail
   refine Cu.out.mono ?_
   rintro e Fh ⟨Bh, v11, rfl, NM⟩
   obtain ⟨hp1, -, hnl, hok, -⟩ := aD sj.out
   obtain ⟨g, gc, hve, hg1, hg2, -, -, -⟩ := NM.set (j := 0) (by rw [List.length_map]; omega)
   rw [List.length_map] at hve
   subst hve
   have TR := (Below.block Bh w.heap.size (by have := Bg.out.size; have := Ak.out; omega)).trans TQ.out
   have hU11 := (nY.out.trans Bg.out).trans Bh
   have cw : ∀ b, b ≠ w.heap.size → (Fh.setCell ⟨w.heap.size, 1, none⟩ (.slice (some ⟨g, 0, none⟩) t.ns.length gc)).heap[b]? = Fh.heap[b]? := fun b hb => blk_setCell_other _ _ _ _ hb
   have Gy : (Fh.setCell ⟨w.heap.size, 1, none⟩ (.slice (some ⟨g, 0, none⟩) t.ns.length gc)).heap[w.heap.size]? = some (Obj.cells #[.slice pp t.ps.length pc, .slice (some ⟨g, 0, none⟩) t.ns.length gc] 39 (0, 0)) := by
    simp [World.setCell, Array.getElem?_modify, TR]
   have hz10 := Bg.out.size
   have HW12 : Hid (Up w (Fh.setCell ⟨w.heap.size, 1, none⟩ (.slice (some ⟨g, 0, none⟩) t.ns.length gc)) ∧ aC vz.heap.size 9 (Fh.setCell ⟨w.heap.size, 1, none⟩ (.slice (some ⟨g, 0, none⟩) t.ns.length gc)) (.slice (some ⟨g, 0, none⟩) t.ns.length gc) ((lz names t.ns 0).map Value.string)) := by
    refine ⟨Below.setCell (p := ⟨w.heap.size, 1, none⟩) hU11 (Nat.le_refl _) _, ?_⟩
    rw [TM]
    exact NM.eD fun b hb => cw b (by have := (aF NM hb).1; have := Ak.out; omega)
   have HB12 := aa Gy
   have HG : Hid (vz.heap.size ≤ g ∧ w.heap.size < vz.heap.size) := ⟨hg1, by have := Ak.out; omega⟩
   have HLV3 : Hid (aq (fun b => w.heap.size < b ∧ b < vz.heap.size) (Fh.setCell ⟨w.heap.size, 1, none⟩ (.slice (some ⟨g, 0, none⟩) t.ns.length gc)) (.slice lp (aj t.ns).length lc) (aj t.ns)) := by
    have h1 := aq.keep Nf.out (Bh.kept _)
    exact aq.keep h1 fun b hb _ => cw b (by have : w.heap.size < b := hb.1; omega)
   have HPW : Hid (aq (fun b => b < w.heap.size) w (.slice pp t.ps.length pc) t.ps ∨ True) := .inr trivial
   have UC := aa (And.intro hnl hp1)
   obtain ⟨c0, c1, c2, c3⟩ := boxed TR
   clear Bh NM hU11 cw Gy TR hg1 hg2 hz10 hnl hok hp1 Nf Cu TQ b0 b1 b2 b3 HPW
   go_wp2_with fail
   generalize Fh.setCell ⟨w.heap.size, 1, none⟩ (.slice (some ⟨g, 0, none⟩) t.ns.length gc) = w12 at *
   clear c0 c1 c2 c3
   go_loopw [18, 19, 121] (fun _ _ i wr => ∃ n : Nat, n ≤ (aj t.ns).length ∧ i = .int .i64 n ∧ Hid (Up w wr ∧ aC vz.heap.size 9 wr (.slice (some ⟨g, 0, none⟩) t.ns.length gc) ((lz names t.ns n).map Value.string) ∧ ∀ b, w.heap.size ≤ b → b < vz.heap.size → wr.heap[b]? = w12.heap[b]?)) (fun _ _ i _ => (aj t.ns).length - (intOf i).toNat)
   case atStart => exact ⟨0, Nat.zero_le _, rfl, HW12.out.1, HW12.out.2, fun _ _ _ => rfl⟩
   case round =>
    obtain ⟨n, hn, rfl, hI⟩ := hrel
    obtain ⟨wi, rfl⟩ : ∃ wi : World, wi = wr := ⟨_, rfl⟩
    obtain ⟨lu, VE, Q6⟩ := hI.out
    have n0 : (0 : Int) ≤ (n : Int) := by omega
    have VF := (Q6 w.heap.size (Nat.le_refl _) HG.out.2).trans HB12.out
    by_cases hlt : n < (aj t.ns).length
    ·have n1 : (n : Int) < ((aj t.ns).length : Int) := by omega
     have n2 : (n : Int) < 8 := by have := dG.out; have := fD.out; omega
     have n3 : (n : Int) < (names.length : Int) := by have := dG.out; omega
     have n4 : n < names.length := by have := dG.out; omega
     obtain ⟨lb, lo, rfl, hcl⟩ := cK (aq.keep HLV3.out fun b hb _ => Q6 b (by have : w.heap.size < b := hb.1; omega) hb.2) hlt
     obtain ⟨Co, Vx, rfl, dL⟩ := bz (ah.keep HH.out (lu.kept _)) n4
     obtain ⟨k, hk1, hk2, hk3, hk4⟩ := lv_cn hlt
     rw [hk1] at hcl
     obtain ⟨g', gc', hge, _, _, hcg, hfg, ZZ⟩ := VE.set (j := k) (by rw [List.length_map, rz]; exact hk2)
     injection hge with hge hge2 hge3
     injection hge with hge
     injection hge with hge
     subst hge
     clear hge2 hge3
     have hgd : ((lz names t.ns n).map Value.string).getD k undef = .string (gs (lz names t.ns n) k) := by
      have : k < (lz names t.ns n).length := by rw [rz]; exact hk2
      simp [gs, this]
     rw [hgd] at hcg
     obtain ⟨b0, b1, b2, b3⟩ := boxed VF
     have VG : Hid (Up w (wi.setCell ⟨g, k, none⟩ (.string (gs names n))) ∧ aC vz.heap.size 9 (wi.setCell ⟨g, k, none⟩ (.string (gs names n))) (.slice (some ⟨g, 0, none⟩) t.ns.length gc) ((lz names t.ns (n + 1)).map Value.string) ∧ ∀ b, w.heap.size ≤ b → b < vz.heap.size → (wi.setCell ⟨g, k, none⟩ (.string (gs names n))).heap[b]? = w12.heap[b]?) := by
      refine ⟨Below.setCell (p := ⟨g, k, none⟩) lu (by have := HG.out; show w.heap.size ≤ g; omega) _, ?_, fun b q1 q2 => (blk_setCell_other _ _ _ _ (by have := HG.out.1; show b ≠ g; omega)).trans (Q6 b q1 q2)⟩
      have h1 := ZZ (.string (gs names n))
      have e : ((lz names t.ns n).map Value.string).set k (.string (gs names n)) = (lz names t.ns (n + 1)).map Value.string := by
       rw [← List.map_set]
       congr 1
       apply List.ext_getElem
       ·simp [rz]
       ·intro i h1 h2
        have hi : i < t.ns.length := by rw [rz] at h2; exact h2
        have h3 := W9 (names := names) hk2 hk3 hk4 i hi
        have h4 : (lz names t.ns (n + 1))[i] = gs (lz names t.ns (n + 1)) i := by simp [gs, h2]
        rw [h4, h3, List.getElem_set]
        by_cases ei : k = i
        ·rw [if_pos ei, if_pos ei.symm]
        ·rw [if_neg ei, if_neg (Ne.symm ei)]
         have h5 : i < (lz names t.ns n).length := by rw [rz]; exact hi
         simp [gs, h5]
      rw [← e]; exact h1
     have k0 : (0 : Int) ≤ (k : Int) := by omega
     have k1 : (k : Int) < (t.ns.length : Int) := by omega
     have k2 : (k : Int) < 128 := by have := nO.out.2.1; omega
     have aV := aa hlt
     clear hI lu VE Q6 VF hlt hk1 hk3 hk4 hgd ZZ
     generalize gs (lz names t.ns n) k = old at *
     generalize gs names n = nw at *
     go_wp2_with fail
     refine dM (by kernel_rfl) 9 (fun w' => w'.cell? ⟨w.heap.size, 1, none⟩ = some (.slice (some ⟨g, 0, none⟩) t.ns.length gc) ∧ w'.cell? ⟨Co, Vx + n, none⟩ = some (.string nw)) ⟨b1, dL⟩ (fun hS => ?_)
     simp only [List.size_toArray, List.length_cons, List.length_nil, Nat.reduceAdd, Array.replicate_succ, Array.replicate_zero, List.push_toArray, List.nil_append, List.cons_append]
     refine af.take (i := 0) (v := ?tq) rfl (by kernel_rfl) (fun _ _ _ h => h) (by rfl) (fun w hSw => ?iE) hS ?tr
     case iE =>
      (try dsimp only at hSw)
      go_simp
      try with_reducible rfl
     try simp only [Act.put, au, av, ax]
     refine af.take (i := 1) (v := ?tu) rfl (by kernel_rfl) (fun _ _ _ h => h) (by rfl) (fun w hSw => ?iF) hS ?tA
     case iF =>
      (try dsimp only at hSw)
      go_simp
      try with_reducible rfl
     try simp only [Act.put, au, av, ax]
     refine af.take (i := 2) (v := ?vM) rfl (by kernel_rfl) (fun _ _ _ h => h) (by rfl) (fun w hSw => ?jF) hS ?vO
     case jF =>
      (try dsimp only at hSw)
      go_simp
      try with_reducible rfl
     try simp only [Act.put, au, av, ax]
     refine af.take (i := 3) (v := ?vP) rfl (by kernel_rfl) (fun _ _ _ h => h) (by rfl) (fun w hSw => ?jG) hS ?vQ
     case jG =>
      (try dsimp only at hSw)
      go_simp
      try with_reducible rfl
     try simp only [Act.put, au, av, ax]
     refine af.take (i := 4) (v := ?vR) rfl (by kernel_rfl) (fun _ _ _ h => h) (by rfl) (fun w hSw => ?jH) hS ?vS
     case jH =>
      (try dsimp only at hSw)
      go_simp
      try with_reducible rfl
     try simp only [Act.put, au, av, ax]
     refine af.take (i := 5) (v := ?vT) rfl (by kernel_rfl) (fun _ _ _ h => h) (by rfl) (fun w hSw => ?jI) hS ?vU
     case jI =>
      (try dsimp only at hSw)
      go_simp
      try with_reducible rfl
     try simp only [Act.put, au, av, ax]
     refine af.take (i := 6) (v := ?zj) rfl (by kernel_rfl) (fun _ _ _ h => h) (by rfl) (fun w hSw => ?lM) hS ?zk
     case lM =>
      (try dsimp only at hSw)
      go_simp
      try with_reducible rfl
     try simp only [Act.put, au, av, ax]
     refine af.take (i := 7) (v := ?BW) rfl (by kernel_rfl) (fun _ _ _ h => h) (by rfl) (fun w hSw => ?nQ) hS ?BX
     case nQ =>
      (try dsimp only at hSw)
      go_simp
      try with_reducible rfl
     try simp only [Act.put, au, av, ax]
     refine af.step (i := 8) rfl (by kernel_rfl) (fun K' hK => ?_)
     go_simp
     refine hK.out _ _ (aJ (by kernel_rfl)) (fun _ => ?_)
     refine af.done (by kernel_rfl) ?_
     go_wp2_with fail
     go_roundw
     case rel => exact ⟨n + 1, aV.out, by go_num, by first | exact VG.out | exact ⟨VG.out.1.trans (Up.drewN _ 1), VG.out.2.1, VG.out.2.2⟩⟩
     case measure => have := aV.out; simp [intOf]; omega
    ·obtain rfl : n = (aj t.ns).length := by omega
     have Uy := aa (Xa (t := t) (names := names) dG.out)
     have CH := rn_of HC.out.nm sj.out dG.out
     have HTF : Hid (aA Any wi (.agg #[.slice pp t.ps.length pc, .slice (some ⟨g, 0, none⟩) t.ns.length gc]) (oz t names)) := by
      unfold Hid
      rw [← Uy.out, ← dG.out]
      obtain ⟨P4, N4, e4, dY, _⟩ := uI.out
      injection e4 with e4
      have e5 : Value.slice pp t.ps.length pc = P4 ∧ Value.slice np t.ns.length nc = N4 := by simpa using e4
      obtain ⟨rfl, rfl⟩ := e5
      refine ⟨_, _, rfl, ?_, ?_⟩
      ·refine aq.sub (S := fun b => b < w.heap.size) (aq.keep dY fun b hb _ => ?_) fun _ _ _ => trivial
       exact (Below.block lu b hb).trans (Below.block nY.out b hb).symm
      ·have h := VE.strs
       unfold ah at h ⊢
       rw [rz] at h ⊢
       exact h.sub fun _ _ _ => trivial
     have Cv := aa (yS.out wi _ (oz t names) lu HTF.out CH (by show t.ps.length ≤ _; have := nO.out.1; omega) (by rw [y8]; have := nO.out.2.1; omega) (fun k => by
      by_cases hk : k < t.ns.length
      ·rw [NF hk]
       unfold L4
       split
       ·exact HZ.out _
       ·have := nO.out.2.2 k; omega
      ·have : gs (oz t names).ns k = ByteArray.empty := by unfold gs; rw [List.getD_eq_getElem?_getD, List.getElem?_eq_none (by rw [y8]; omega)]; rfl
       rw [this]; exact Nat.zero_le _))
     have hle := dQ.out _ CH
     have hnn := Fv HC.out CH
     have yl := aa lu
     obtain ⟨b0, b1, b2, b3⟩ := boxed VF
     have d8 : decide (bT names states ≤ bG (oz t names) names states) = true := by simp [hle]
     clear hI lu VE Q6 VF hlt CH HTF
     generalize bG (oz t names) names states = sf at *
     go_wp2_with fail
     refine Cv.out.mono ?_
     rintro e w13 ⟨hu13, rfl⟩
     have HU13 := aa (yl.out.trans hu13)
     clear hu13
     go_wp2_with fail
     refine (Fj.out _).mono ?_
     rintro e w' ⟨rfl, mZ⟩
     go_wp2_with fail
     go_ret
     exact ⟨rfl, HU13.out.trans mZ⟩
end
end Go.Proofs.YthgabkgmkolobaaGreat
