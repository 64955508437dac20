/- The contract of slices.Sort at ints: the laying. The tree of a forest whose rose tree is .. -/
import Derived.Shelf.SlGeneric
import Derived.Shelf.SlLaysM
import Derived.Ground.SlgmProg
import Derived.Test.YthgabkgmkolobaaGreatProg
import Derived.Test.YthgabkgmkolobaaGreatQ22
import Derived.StillTail
import Derived.Test.YthgabkgmkolobaaGreatQ21
import Derived.Test.YthgabkgmkolobaaGreatQ3
import Derived.Shelf.SortM.Plain
import Derived.Shelf.SortM.SortNone
import Derived.Sort.OwnSortedInts
import Derived.Test.YthgabkgmkolobaaGreatQ6
import Derived.Test.YthgabkgmkolobaaGreatQ1
import Derived.Shelf.Strings.BuilderK
import Derived.Ground.NamesProg
import Derived.Ground.Names2Prog
import Derived.Laws.IdiomStrings
import Derived.Sort.OwnSorted
import Derived.Shelf.Slices.In.SortNone
import Derived.Shelf.Lays
import Derived.Shelf.Sort.Plain
import Derived.Test.YthgabkgmkolobaaGreatQ2
import Derived.Test.YthgabkgmkolobaaGreatQ19
import Derived.Test.YthgabkgmkolobaaGreatQ8
import Derived.Deep.CutRange
import Derived.Test.YthgabkgmkolobaaGreatQ15
import Derived.Test.YthgabkgmkolobaaGreatQ17
import Derived.Test.YthgabkgmkolobaaGreatQ5
import Derived.Test.YthgabkgmkolobaaGreatQ16
import Derived.Test.YthgabkgmkolobaaGreatQ14
set_option maxRecDepth 100000
namespace Go.Proofs
open Go.Shelf
def Tryz.sortZ_ren : Go.Shelf.Ren := ⟨fun | 5 => 71 | 8 => 127 | 7 => 126 | 19 => 181 | 20 => 182 | 10 => 172 | 11 => 173 | 12 => 174 | 13 => 175 | 14 => 176 | 15 => 177 | 16 => 178 | 17 => 179 | 18 => 180 | 30 => 234 | 31 => 235 | 32 => 236 | 33 => 237 | 34 => 238 | 35 => 131 | 40 => 270 | n => n, fun | 23 => 26 | 25 => 3 | 3 => 3 | 32 => 154 | 22 => 26 | 0 => 0 | 44 => 191 | 46 => 193 | 4 => 4 | 36 => 183 | 35 => 182 | 41 => 188 | 5 => 5 | 9 => 9 | 53 => 238 | 57 => 242 | 63 => 267 | 64 => 177 | n => n, fun | n => n⟩
theorem Tryz.sortZ : Go.Proofs.SlLaysM.n5 Tryz.prog Tryz.sortZ_ren := {
 mixed := by kernel_rfl
 f5 := ⟨Tryz.f71.name, by decide, Tryz.func71.trans (congrArg some (by kernel_rfl))⟩
 f7 := ⟨Tryz.f126.name, by decide, Tryz.func126.trans (congrArg some (by kernel_rfl))⟩
 f8 := Tryz.func127.trans (congrArg some (by kernel_rfl))
 f10 := ⟨Tryz.f172.name, by decide, Tryz.func172.trans (congrArg some (by kernel_rfl))⟩
 f11 := ⟨Tryz.f173.name, by decide, Tryz.func173.trans (congrArg some (by kernel_rfl))⟩
 f12 := ⟨Tryz.f174.name, by decide, Tryz.func174.trans (congrArg some (by kernel_rfl))⟩
 f13 := ⟨Tryz.f175.name, by decide, Tryz.func175.trans (congrArg some (by kernel_rfl))⟩
 f14 := ⟨Tryz.f176.name, by decide, Tryz.func176.trans (congrArg some (by kernel_rfl))⟩
 f15 := ⟨Tryz.f177.name, by decide, Tryz.func177.trans (congrArg some (by kernel_rfl))⟩
 f16 := ⟨Tryz.f178.name, by decide, Tryz.func178.trans (congrArg some (by kernel_rfl))⟩
 f17 := ⟨Tryz.f179.name, by decide, Tryz.func179.trans (congrArg some (by kernel_rfl))⟩
 f18 := ⟨Tryz.f180.name, by decide, Tryz.func180.trans (congrArg some (by kernel_rfl))⟩
 f19 := Tryz.func181.trans (congrArg some (by kernel_rfl))
 f20 := Tryz.func182.trans (congrArg some (by kernel_rfl))
 f30 := ⟨Tryz.f234.name, by decide, Tryz.func234.trans (congrArg some (by kernel_rfl))⟩
 f31 := Tryz.func235.trans (congrArg some (by kernel_rfl))
 f32 := Tryz.func236.trans (congrArg some (by kernel_rfl))
 f33 := ⟨Tryz.f237.name, by decide, Tryz.func237.trans (congrArg some (by kernel_rfl))⟩
 f34 := ⟨Tryz.f238.name, by decide, Tryz.func238.trans (congrArg some (by kernel_rfl))⟩
 f35 := ⟨Tryz.f131.name, by decide, Tryz.func131.trans (congrArg some (by kernel_rfl))⟩
 f40 := ⟨Tryz.f270.name, by decide, Tryz.func270.trans (congrArg some (by kernel_rfl))⟩
 t0 := Tryz.underlying0
 a0 := Tryz.isAgg0
 z0 := Tryz.sizeOf0
 v0 := Tryz.zeroValue0
 t3 := Tryz.underlying3
 a3 := Tryz.isAgg3
 z3 := Tryz.sizeOf3
 v3 := Tryz.zeroValue3
 t4 := Tryz.underlying4
 a4 := Tryz.isAgg4
 z4 := Tryz.sizeOf4
 v4 := Tryz.zeroValue4
 t5 := Tryz.underlying5
 a5 := Tryz.isAgg5
 z5 := Tryz.sizeOf5
 v5 := Tryz.zeroValue5
 t9 := Tryz.underlying9
 a9 := Tryz.isAgg9
 z9 := Tryz.sizeOf9
 v9 := Tryz.zeroValue9
 t22 := Tryz.underlying26
 a22 := Tryz.isAgg26
 z22 := Tryz.sizeOf26
 v22 := Tryz.zeroValue26
 t23 := Tryz.underlying26
 a23 := Tryz.isAgg26
 z23 := Tryz.sizeOf26
 v23 := Tryz.zeroValue26
 t25 := Tryz.underlying3
 a25 := Tryz.isAgg3
 z25 := Tryz.sizeOf3
 v25 := Tryz.zeroValue3
 t32 := Tryz.underlying154
 a32 := Tryz.isAgg154
 z32 := Tryz.sizeOf154
 v32 := Tryz.zeroValue154
 t35 := Tryz.underlying182
 a35 := Tryz.isAgg182
 z35 := Tryz.sizeOf182
 v35 := Tryz.zeroValue182
 t36 := Tryz.underlying183
 a36 := Tryz.isAgg183
 z36 := Tryz.sizeOf183
 v36 := Tryz.zeroValue183
 t41 := Tryz.underlying188
 a41 := Tryz.isAgg188
 z41 := Tryz.sizeOf188
 v41 := Tryz.zeroValue188
 t44 := Tryz.underlying191
 a44 := Tryz.isAgg191
 z44 := Tryz.sizeOf191
 v44 := Tryz.zeroValue191
 t46 := Tryz.underlying193
 a46 := Tryz.isAgg193
 z46 := Tryz.sizeOf193
 v46 := Tryz.zeroValue193
 t53 := Tryz.underlying238
 a53 := Tryz.isAgg238
 z53 := Tryz.sizeOf238
 v53 := Tryz.zeroValue238
 t57 := Tryz.underlying242
 a57 := Tryz.isAgg242
 z57 := Tryz.sizeOf242
 v57 := Tryz.zeroValue242
 t63 := Tryz.underlying267
 a63 := Tryz.isAgg267
 z63 := Tryz.sizeOf267
 v63 := Tryz.zeroValue267
 t64 := Tryz.underlying177
 a64 := Tryz.isAgg177
 z64 := Tryz.sizeOf177
 v64 := Tryz.zeroValue177 }
end Go.Proofs
namespace Go.Proofs.YthgabkgmkolobaaGreat
section
section
variable {F : aT} {n : Nat} {rk : Nat → Nat}
theorem Ss (h : Wf F n rk) : ∀ {d i : Nat} (p : Option Nat) (np : Int) (s : wX), i < n → rk i ≤ d → (bK F rk i).Nodup → p ≠ some i → s.mp.lookup p = some np → (∀ j ∈ bK F rk i, s.mp.lookup (some j) = none) →
  FI s ((dN F rk i p).foldl (nG F) s) (psR (aN F rk i) s.ps.length np) (cM (aN F rk i)) (bK F rk i) := by
 intro d
 induction d with
 | zero =>
  intro i p np s hi hd Zk hp hl hn
  have hk : F.kids i = [] := by
   cases hk : F.kids i with
   | nil => rfl
   | cons k l => have := (h.kid i hi k (by rw [hk]; simp)).2; omega
  rw [fU h hi, di h hi, b7 h hi, hk]
  have hni := hn i (by rw [b7 h hi]; simp)
  refine ⟨?_, ?_, fun k hk2 => dD _ (hk2 i (by simp))⟩
  ·show s.ps ++ [((kP s.mp (some i) _).lookup p).getD 0] = _
   rw [dD _ hp, hl]; rfl
  ·rfl
 | succ d ih =>
  intro i p np s hi hd Zk hp hl hn
  rw [fU h hi, di h hi, b7 h hi]
  have hni := hn i (by rw [b7 h hi]; simp)
  have eT := Zk
  rw [b7 h hi, List.nodup_cons] at eT
  have key : ∀ (l : List Nat), (∀ k ∈ l, k ∈ F.kids i) → (l.flatMap fun k => bK F rk k).Nodup → (∀ k ∈ l, i ∉ bK F rk k) → ∀ (s2 : wX) (own : Nat), s2.mp.lookup (some i) = some (own : Int) → (∀ k ∈ l, ∀ j ∈ bK F rk k, s2.mp.lookup (some j) = none) →
    FI s2 ((l.flatMap fun k => dN F rk k (some i)).foldl (nG F) s2) (psRs (l.map (aN F rk)) own s2.ps.length) (dg (l.map (aN F rk))) (l.flatMap fun k => bK F rk k) := by
   intro l
   induction l with
   | nil => intro _ _ _ s2 own _ _; exact ⟨by simp [psRs], by simp [dg], fun _ _ => rfl⟩
   | cons c l ihl =>
    intro hin hdl hil s2 own ho hno
    have hcc := h.kid i hi c (hin c (by simp))
    rw [List.flatMap_cons, List.foldl_append, List.flatMap_cons]
    rw [List.flatMap_cons, List.nodup_append] at hdl
    have h1 := ih (some i) (own : Int) s2 hcc.1 (by omega) hdl.1 (fun e => by
     injection e with e
     have := hcc.2; rw [e] at this; omega) ho (hno c (by simp))
    have h2 := ihl (fun k hk => hin k (by simp [hk])) hdl.2.1 (fun k hk => hil k (by simp [hk])) ((dN F rk c (some i)).foldl (nG F) s2) own
     ((h1.old (some i) (fun j hj e => by injection e with e; subst e; exact hil c (by simp) hj)).trans ho)
     (fun k hk j hj => (h1.old (some j) (fun j2 hj2 e => by
      injection e with e; subst e
      exact hdl.2.2 j hj2 j (List.mem_flatMap.2 ⟨k, hk, hj⟩) rfl)).trans (hno k (by simp [hk]) j hj))
    refine ⟨?_, ?_, fun k hk => ?_⟩
    ·rw [h2.ps, h1.ps, List.map_cons, psRs, List.append_assoc, List.length_append, lG]
    ·rw [h2.ns, h1.ns, List.map_cons, dg, List.append_assoc]
    ·rw [h2.old k (fun j hj => hk j (by simp [hj])), h1.old k (fun j hj => hk j (by simp [hj]))]
  have hin : ∀ k ∈ F.kids i, i ∉ bK F rk k := fun k hk hm => eT.1 (List.mem_flatMap.2 ⟨k, hk, hm⟩)
  have h3 := key (F.kids i) (fun k hk => hk) eT.2 hin (nG F s (i, p)) s.ps.length (td _ hni) (fun k hk j hj => by
   show (kP s.mp (some i) _).lookup (some j) = none
   rw [dD _ (fun e => by injection e with e; subst e; exact hin k hk hj)]
   exact hn j (by rw [b7 h hi]; exact List.mem_cons_of_mem _ (List.mem_flatMap.2 ⟨k, hk, hj⟩)))
  have hps : (nG F s (i, p)).ps = s.ps ++ [np] := by
   show s.ps ++ [((kP s.mp (some i) _).lookup p).getD 0] = _
   rw [dD _ hp, hl]; rfl
  rw [List.foldl_cons]
  refine ⟨?_, ?_, fun k hk => ?_⟩
  ·rw [h3.ps, hps, psR, List.append_assoc, List.length_append]; rfl
  ·rw [h3.ns]
   show (s.ns ++ [F.nm i]) ++ _ = _
   rw [cM, List.append_assoc]; rfl
  ·rw [h3.old k (fun j hj => hk j (by simp [hj]))]
   exact dD _ (hk i (by simp))
theorem Kf (h : Wf F n rk) {i : Nat} (hi : i < n) (eT : (bK F rk i).Nodup) : fJ F rk i = flat (aN F rk i) := by
 have h1 := Ss h (d := rk i) none (-1) CV hi (Nat.le_refl _) eT (fun e => by cases e) rfl (fun j _ => rfl)
 unfold fJ flat cB
 rw [h1.ps, h1.ns]
 rfl
end
end
section
open Go.RowKit Go.Shelf Go.Deep
theorem Su (W : World) : (zeroValue 3).run Tryz.prog W = .ok (.int .i64 0) W := by simp [Tryz.zeroValue3]
end
section
open Go.RowKit Go.Shelf Go.Deep Go.Sort
def iZ (xs : List Int) : List Int := xs.mergeSort fun x y => decide (x ≤ y)
theorem yx (xs : List Int) : (iZ xs).length = xs.length := List.length_mergeSort _
theorem Zl (w w1 : World) (v : Value) (xs : List Int) (hu : Up w w1) (ho : aC w.heap.size 3 w1 v (xs.map (Value.int .i64))) (hlen : xs.length ≤ 1000000) :
  Calls Tryz.prog 71 #[v] w1 fun e w' => e = .returned (.tuple #[]) ∧ Up w w' ∧ aC w.heap.size 3 w' v ((iZ xs).map (Value.int .i64)) := by
 rcases ho.2 with ⟨rfl, h0⟩ | ⟨g, cap, cur, rfl, hg, hc, hn, hcm, hcs, ht⟩
 ·have hx : xs = [] := by cases xs with | nil => rfl | cons _ _ => simp at h0
  subst hx
  refine (AnyM.slices_Sort_int_none Tryz.sortZ none 0 w1).mono ?_
  rintro e w' ⟨rfl, rfl⟩
  exact ⟨rfl, hu, by unfold iZ; simpa using ho⟩
 ·simp only [List.length_map] at hn ht ho ⊢
  refine (AnyM.slices_Sort_int Tryz.sortZ g 0 cap xs w1 (holds_of_blockI hc (by simpa using ht)) (Array.getElem?_eq_some_iff.1 hc).1 (by omega)).mono ?_
  rintro e w' ⟨rfl, n, os, rfl⟩
  refine ⟨rfl, Below.grown hu (grownBy_sortedI _) hu.size (fun j hj => by cases hj; exact hg), ?_⟩
  have h := ownsRow_sortedI (n := n) (os := os) (ss := xs) (ts := iZ xs) (yx xs) hg hc hn hcm (by simpa using hcs)
  unfold aC
  rw [List.length_map, yx]
  exact h
end
end Go.Proofs.YthgabkgmkolobaaGreat
namespace Go.Proofs
open Go.Shelf
def Tryz.bldG_ren : Go.Shelf.Ren := ⟨fun | 169 => 94 | n => n, fun | 70 => 115 | 9 => 9 | 0 => 0 | 72 => 117 | 37 => 77 | 127 => 164 | 3 => 3 | 5 => 5 | n => n, fun | n => n⟩
theorem Tryz.bldG : Go.Proofs.Lays.n169 Tryz.prog Tryz.bldG_ren := {
 mixed := by kernel_rfl
 f169 := Tryz.func94.trans (congrArg some (by kernel_rfl))
 t0 := Tryz.underlying0
 a0 := Tryz.isAgg0
 z0 := Tryz.sizeOf0
 v0 := Tryz.zeroValue0
 t3 := Tryz.underlying3
 a3 := Tryz.isAgg3
 z3 := Tryz.sizeOf3
 v3 := Tryz.zeroValue3
 t9 := Tryz.underlying9
 a9 := Tryz.isAgg9
 z9 := Tryz.sizeOf9
 v9 := Tryz.zeroValue9
 t37 := Tryz.underlying77
 a37 := Tryz.isAgg77
 z37 := Tryz.sizeOf77
 v37 := Tryz.zeroValue77
 t70 := Tryz.underlying115
 a70 := Tryz.isAgg115
 z70 := Tryz.sizeOf115
 v70 := Tryz.zeroValue115
 t72 := Tryz.underlying117
 a72 := Tryz.isAgg117
 z72 := Tryz.sizeOf117
 v72 := Tryz.zeroValue117
 t127 := Tryz.underlying164
 a127 := Tryz.isAgg164
 z127 := Tryz.sizeOf164
 v127 := Tryz.zeroValue164 }
end Go.Proofs
namespace Go.Proofs.YthgabkgmkolobaaGreat
section
section
variable {F : aT} {n : Nat} {rk : Nat → Nat} {P : Nat → Bool}
theorem Pq (h : Wf F n rk) {i : Nat} (hi : i < n) (hg : fK (aN F rk i)) : aH (aN F rk i) ≤ n := by
 rw [← jD, th h hi (Nat.le_refl _), List.length_map]
 exact oI (B3 h _ i (Nat.le_refl _) hi hg) fun x hx => oH h hi (Nat.le_refl _) ((dV h hi (Nat.le_refl _)).1 hx)
end
end
section
section
variable {names : List ByteArray} {l : List UR}
theorem yy (ns : List ByteArray) : (aj ns).length = (kV ns).length := by
 unfold aj
 rw [List.length_map]
 have h : ∀ k, k ≤ ns.length → ((List.range k).filter fun i => (gs ns i).size ≠ 0).length = (kV (ns.take k)).length := by
  intro k
  induction k with
  | zero => intro _; rfl
  | succ k ih =>
   intro hk
   have hg : gs ns k = ns[k] := by simp [gs, show k < ns.length by omega]
   rw [List.range_succ, List.filter_append, List.length_append, ih (by omega), List.take_succ_eq_append_getElem (show k < ns.length by omega), G8, List.length_append, ← hg]
   congr 1
   unfold kV
   by_cases e : (gs ns k).size ≠ 0
   ·rw [List.filter_cons_of_pos (by simpa using e), List.filter_cons_of_pos (by simpa using e)]; rfl
   ·rw [List.filter_cons_of_neg (by simpa using e), List.filter_cons_of_neg (by simpa using e)]; rfl
 have := h ns.length (Nat.le_refl _)
 rw [List.take_length] at this
 exact this
end
end
section
open Go.RowKit Go.Deep
set_option maxHeartbeats 2000000 in
theorem Ho (S T : Nat → Prop) (w : World) (v u : Value) (t : ay) (h : aA S w v t) (h2 : aA T w u t) (hp : t.ps.length ≤ 1000000) (hn : t.ns.length ≤ 1000000) :
  Calls Tryz.prog 37 #[v, u] w fun e w' => e = .returned (.bool true) ∧ Up w w' := by
 obtain ⟨P, N, rfl, hP, hN⟩ := h
 obtain ⟨P2, N2, rfl, fP, fQ⟩ := h2
 obtain ⟨pp, pc, rfl, _, _⟩ := aB.open hP
 obtain ⟨np, nc, rfl, _, _⟩ := aB.open hN
 obtain ⟨nR, nS, rfl, _, _⟩ := aB.open fP
 obtain ⟨nT, nU, rfl, _, _⟩ := aB.open fQ
 have hP : aq S w (.slice pp t.ps.length pc) t.ps := hP
 have hN : ah S w (.slice np t.ns.length nc) t.ns := hN
 have fP : aq T w (.slice nR t.ps.length nS) t.ps := fP
 have fQ : ah T w (.slice nT t.ns.length nU) t.ns := fQ
 have aR := Up.alloc w (.cells #[.slice pp t.ps.length pc, .slice np t.ns.length nc] 39)
 have aG := Up.alloc (w.alloc (.cells #[.slice pp t.ps.length pc, .slice np t.ns.length nc] 39)) (.cells #[.slice nR t.ps.length nS, .slice nT t.ns.length nU] 39)
 have hu := aR.trans aG
 have a0 := aG.cell (dW w (.slice pp t.ps.length pc) (.slice np t.ns.length nc) 39)
 have a1 := aG.cell (eu w (.slice pp t.ps.length pc) (.slice np t.ns.length nc) 39)
 have b0 := dW (w.alloc (.cells #[.slice pp t.ps.length pc, .slice np t.ns.length nc] 39)) (.slice nR t.ps.length nS) (.slice nT t.ns.length nU) 39
 have b1 := eu (w.alloc (.cells #[.slice pp t.ps.length pc, .slice np t.ns.length nc] 39)) (.slice nR t.ps.length nS) (.slice nT t.ns.length nU) 39
 rw [World.size_alloc] at b0 b1
 have HP := aa (aq.keep hP (hu.kept S))
 have HN := aa (ah.keep hN (hu.kept S))
 have Pr := aa (aq.keep fP (hu.kept T))
 have Hp := aa (ah.keep fQ (hu.kept T))
 have HU := aa hu
 have A0 := aa a0
 have A1 := aa a1
 have Zm := aa b0
 have Zn := aa b1
 have d0 : ((t.ps.length : Int) != (t.ps.length : Int)) = false := by simp
 have d1 : ((t.ns.length : Int) != (t.ns.length : Int)) = false := by simp
 clear hP hN fP fQ hu aR aG
 go_enter Tryz.func37, Tryz.ntmps37
 go_wp2_with fail
 clear a0 a1 b0 b1
 generalize (w.alloc (.cells #[.slice pp t.ps.length pc, .slice np t.ns.length nc] 39)).alloc (.cells #[.slice nR t.ps.length nS, .slice nT t.ns.length nU] 39) = w1 at *
 go_loopw [5] (fun i wr => ∃ k : Nat, k ≤ t.ps.length ∧ i = .int .i64 k ∧ Hid (QD w1 wr)) (fun i _ => t.ps.length - (intOf i).toNat)
 case atStart => exact ⟨0, Nat.zero_le _, rfl, QD.refl _⟩
 case round =>
  obtain ⟨k, hk, rfl, hQ⟩ := hrel
  have a0 := hQ.out.up.cell A0.out
  have b0 := hQ.out.up.cell Zm.out
  by_cases hlt : k < t.ps.length
  ·obtain ⟨b, off, rfl, hc⟩ := cK (aq.keep HP.out (hQ.out.kept S)) hlt
   obtain ⟨b2, off2, rfl, hc2⟩ := cK (aq.keep Pr.out (hQ.out.kept T)) hlt
   have i1 : (0 : Int) ≤ (k : Int) := by omega
   have i2 : (k : Int) < (t.ps.length : Int) := by omega
   generalize gi t.ps k = x at *
   have j1 : (x != x) = false := by simp
   go_wp2_with fail
   go_quiet (fail)
   go_wp2_with fail
   go_roundw
   case rel => exact ⟨k + 1, by omega, by go_num, hQ.out.drewN nq⟩
   case measure => simp [intOf]; omega
  ·obtain rfl : k = t.ps.length := by omega
   have Zo := aa hQ.out
   clear hlt hk
   go_wp2_with fail
   go_loopw [6] (fun i wr => ∃ k : Nat, k ≤ t.ns.length ∧ i = .int .i64 k ∧ Hid (QD w1 wr)) (fun i _ => t.ns.length - (intOf i).toNat)
   case atStart => exact ⟨0, Nat.zero_le _, rfl, Zo.out⟩
   case round =>
    obtain ⟨k, hk, rfl, hQ⟩ := hrel
    have a1 := hQ.out.up.cell A1.out
    have b1 := hQ.out.up.cell Zn.out
    by_cases hlt : k < t.ns.length
    ·obtain ⟨b, off, rfl, hc⟩ := bz (ah.keep HN.out (hQ.out.kept S)) hlt
     obtain ⟨b2, off2, rfl, hc2⟩ := bz (ah.keep Hp.out (hQ.out.kept T)) hlt
     have i1 : (0 : Int) ≤ (k : Int) := by omega
     have i2 : (k : Int) < (t.ns.length : Int) := by omega
     generalize gs t.ns k = x at *
     have j1 : (x.toList == x.toList) = true := by simp
     go_wp2_with fail
     go_quiet (fail)
     go_wp2_with fail
     go_roundw
     case rel => exact ⟨k + 1, by omega, by go_num, hQ.out.drewN nq⟩
     case measure => simp [intOf]; omega
    ·obtain rfl : k = t.ns.length := by omega
     clear hlt hk
     go_wp2_with fail
     go_ret
     exact ⟨rfl, HU.out.trans hQ.out.up⟩
end
section
open Go.RowKit Go.Deep
theorem r8 (w : World) (cs : Array Value) (T : TypeId) (xs : List Int) (hcs : cs.toList = xs.map (Value.int .i64)) (n : Nat) (hn : n = xs.length) : aq Any (w.alloc (.cells cs T)) (.slice (some ⟨w.heap.size, 0, none⟩) n n) xs := by
 subst hn
 refine ⟨_, _, rfl, Nat.le_refl _, .inr ⟨_, 0, rfl, trivial, fun k hk => ?_⟩⟩
 rw [Nat.zero_add, aO, ← Array.getElem?_toList, hcs]
 simp [gi, hk]
theorem Hq (w : World) (cs : Array Value) (T : TypeId) (xs : List ByteArray) (hcs : cs.toList = xs.map Value.string) (n : Nat) (hn : n = xs.length) : ah Any (w.alloc (.cells cs T)) (.slice (some ⟨w.heap.size, 0, none⟩) n n) xs := by
 subst hn
 refine ⟨_, _, rfl, Nat.le_refl _, .inr ⟨_, 0, rfl, trivial, fun k hk => ?_⟩⟩
 rw [Nat.zero_add, aO, ← Array.getElem?_toList, hcs]
 simp [gs, hk]
end
section
open Go.RowKit Go.Deep
theorem Hr : (Tryz.prog.info? 117).map (·.size) = some 2 := by kernel_rfl
theorem Sv : liesAt Tryz.prog Tryz.prog.depth 117 (2 / Tryz.prog.cellsOf 117) 0 117 1 = true := by kernel_rfl
theorem Hs : (Tryz.prog.info? 5).map (fun i => (i.zero, i.size, i.bytes)) = some (some (.int .u8 0), 1, 1) := by kernel_rfl
theorem Pt : (117 : TypeId) ≠ 5 := by decide
set_option maxHeartbeats 1000000 in
theorem V6 (b : Nat) (w : World) (h0 : w.cell? ⟨b, 0, none⟩ = some (.pointer (some ⟨b, 0, none⟩))) :
  Calls Tryz.prog 140 #[.pointer (some ⟨b, 0, none⟩)] w fun e w' => e = .returned (.tuple #[]) ∧ w' = w := by
 obtain ⟨j, hj, _⟩ := Option.map_eq_some_iff.1 Hr
 go_enter Tryz.func140, Tryz.ntmps140
 go_wp2_with fail
 rw [Lib.run_neq_ptr_same w _ Tryz.underlying115 hj]
 go_wp2_with fail
 go_end0
 exact ⟨rfl, rfl⟩
set_option maxHeartbeats 1000000 in
theorem Sw (b : Nat) (w : World) (h0 : w.cell? ⟨b, 0, none⟩ = some (.pointer none)) (hsh : w.shape? b = some (117, 2)) (hfz : w.frozen? ⟨b, 0, none⟩ = false) :
  Calls Tryz.prog 140 #[.pointer (some ⟨b, 0, none⟩)] w fun e w' => e = .returned (.tuple #[]) ∧ w' = w.setCell ⟨b, 0, none⟩ (.pointer (some ⟨b, 0, none⟩)) := by
 obtain ⟨j, hj, Zp⟩ := Option.map_eq_some_iff.1 Hr
 go_enter Tryz.func140, Tryz.ntmps140
 go_wp2_with fail
 rw [Lib.run_to_unsafe w ⟨b, 0, none⟩ Tryz.underlying115 Tryz.underlying205 hj (by rw [Zp]; decide) hsh (Nat.zero_lt_succ 1)]
 simp only [Result.andThen]
 rw [Oper.upon_value]
 go_wp2_with fail
 rw [run_callFunc_extern Tryz.func198 (by kernel_rfl) (by kernel_rfl) (by kernel_rfl) (e := Extern.AbiNoEscape.same) (by kernel_rfl)]
 rw [Lib.run_noEscape]
 simp only [Result.andThen]
 rw [Oper.upon_value]
 go_wp2_with fail
 rw [Lib.run_from_unsafe w ⟨b, 0, none⟩ Tryz.underlying205 Tryz.underlying115 hj hsh Sv]
 simp only [Result.andThen]
 rw [Oper.upon_value]
 go_wp2_with fail
 go_end0
 exact ⟨rfl, rfl⟩
theorem Zq (B b : Nat) (bs : List Value) (w : World) (h : Lib.IsBuilderF 117 5 B b bs w) :
  Calls Tryz.prog 140 #[.pointer (some ⟨b, 0, none⟩)] w fun e w' => e = .returned (.tuple #[]) ∧ (Lib.BuilderAtF 117 5 B b (.pointer (some ⟨b, 0, none⟩)) bs w' ∧ Below B w w' ∧ Lib.OthersKept 5 (some b) w w') := by
 rcases h with h | h
 ·refine (Sw b w h.cell0 h.shape h.frozen0).mono ?_
  rintro e w' ⟨rfl, rfl⟩
  exact ⟨rfl, h.used _, (Below.refl B w).setCell (p := ⟨b, 0, none⟩) h.1 _, (Lib.OthersKept.refl _ _ w).setCell ⟨b, 0, none⟩ rfl _⟩
 ·refine (V6 b w h.cell0).mono ?_
  rintro e w' ⟨rfl, rfl⟩
  exact ⟨rfl, h, Below.refl B _, Lib.OthersKept.refl _ _ _⟩
set_option maxHeartbeats 2000000 in
theorem Db (B b : Nat) (bs : List Value) (c : Int) (w : World) (h : Lib.IsBuilderF 117 5 B b bs w) (hlen : bs.length + 1 ≤ 140737488355328) (hBw : B ≤ w.heap.size) :
  Calls Tryz.prog 92 #[.pointer (some ⟨b, 0, none⟩), .int .u8 c] w fun e w' => e = .returned .nilIface ∧ (Lib.BuilderAtF 117 5 B b (.pointer (some ⟨b, 0, none⟩)) (bs ++ [.int .u8 c]) w' ∧ Below B w w' ∧ Lib.OthersKept 5 (some b) w w') := by
 obtain ⟨i0, hi, hzz⟩ := Option.map_eq_some_iff.1 Hs
 simp only [Prod.mk.injEq] at hzz
 obtain ⟨hz0, hz1, hz2⟩ := hzz
 have Oa := aa (Zq B b bs w h)
 clear h
 go_enter Tryz.func92, Tryz.ntmps92
 go_wp2_with fail
 refine Oa.out.mono ?_
 rintro e w1 ⟨rfl, h1, hb1, hk1⟩
 obtain ⟨hB, v, hbk, hown, hne⟩ := h1
 have c0 : w1.cell? ⟨b, 0, none⟩ = some (.pointer (some ⟨b, 0, none⟩)) := by rw [Lib.cell_of_heap hbk]; rfl
 have c1 : w1.cell? ⟨b, 1, none⟩ = some v := by rw [Lib.cell_of_heap hbk]; rfl
 go_wp2_with (at_builtin; refine wpList_append_ownF _ rfl _ _ 77 rfl B 5 i0 (.int .u8 0) 1 1 Tryz.underlying77 hi hz0 hz1 hz2 rfl (by decide) _ _ _ rfl (hown.alloc _) ⟨w1.heap.size, 0, none⟩ 1 1 [.int .u8 c] rfl rfl ?c1 ?c2 ?c3 ?c4 ?c5 ?_)
 case c1 =>
  intro j u hj
  match j, hj with
  | 0, hj => simp at hj; subst hj; simp [Addr.add]
 case c2 => intro u hu; simp at hu; subst hu; rfl
 case c3 => unfold maxLen; omega
 case c4 => omega
 case c5 => have := hb1.size; simp; omega
 intro v' w2 hown' hgrow _
 have hlt : b < w1.heap.size := by
  rcases Nat.lt_or_ge b w1.heap.size with h' | h'
  ·exact h'
  ·simp [Array.getElem?_eq_none h'] at hbk
 have hb2 : w2.heap[b]? = some (.cells #[.pointer (some ⟨b, 0, none⟩), v] 117 (0, 0)) := by
  rw [hgrow.block b (by simp; omega) (fun e => hne e.symm), Lib.alloc_old w1 _ b hlt]
  exact hbk
 have d0 : w2.cell? ⟨b, 0, none⟩ = some (.pointer (some ⟨b, 0, none⟩)) := by rw [Lib.cell_of_heap hb2]; rfl
 have d1 : w2.cell? ⟨b, 1, none⟩ = some v := by rw [Lib.cell_of_heap hb2]; rfl
 have f1 : w2.frozen? ⟨b, 1, none⟩ = false := Lib.frozen_of_heap hb2 1
 obtain ⟨g, cap, rfl⟩ : ∃ g cap, v' = .slice (some ⟨g, 0, none⟩) (bs.length + 1) cap := by
  rcases hown'.2 with ⟨_, h0⟩ | ⟨g, cap, cur, fz, hv, _⟩
  ·omega
  ·exact ⟨g, cap, hv⟩
 go_wp2_with fail
 go_ret
 refine ⟨rfl, ?_, ?_, ((hk1.alloc _).grown hgrow (Lib.ownsRowF_kind (hown.alloc _))).setCell ⟨b, 1, none⟩ rfl _⟩
 ·exact Lib.BuilderAtF.put (T := 117) (e := 5) hB hb2 (bs' := bs ++ [.int .u8 c]) (by simpa using hown') Pt
 ·exact ((hb1.alloc (by have := hb1.size; omega) _).grown hgrow (by have := hb1.size; simp; omega) (fun k hk => (hown.lt k hk).1)).setCell (p := ⟨b, 1, none⟩) hB _
set_option maxHeartbeats 2000000 in
theorem Zr (B b : Nat) (bs : List Value) (s : ByteArray) (w : World) (h : Lib.IsBuilderF 117 5 B b bs w) (hlen : bs.length + s.size ≤ 140737488355328) (hBw : B ≤ w.heap.size) :
  Calls Tryz.prog 91 #[.pointer (some ⟨b, 0, none⟩), .string s] w fun e w' => e = .returned (.tuple #[.int .i64 s.size, .nilIface]) ∧ (Lib.BuilderAtF 117 5 B b (.pointer (some ⟨b, 0, none⟩)) (bs ++ Lib.strCells s) w' ∧ Below B w w' ∧ Lib.OthersKept 5 (some b) w w') := by
 obtain ⟨i0, hi, hzz⟩ := Option.map_eq_some_iff.1 Hs
 simp only [Prod.mk.injEq] at hzz
 obtain ⟨hz0, hz1, hz2⟩ := hzz
 have Oa := aa (Zq B b bs w h)
 clear h
 go_enter Tryz.func91, Tryz.ntmps91
 go_wp2_with fail
 refine Oa.out.mono ?_
 rintro e w1 ⟨rfl, h1, hb1, hk1⟩
 obtain ⟨hB, v, hbk, hown, hne⟩ := h1
 have c0 : w1.cell? ⟨b, 0, none⟩ = some (.pointer (some ⟨b, 0, none⟩)) := by rw [Lib.cell_of_heap hbk]; rfl
 have c1 : w1.cell? ⟨b, 1, none⟩ = some v := by rw [Lib.cell_of_heap hbk]; rfl
 go_wp2_with (at_builtin; refine Lib.wpList_append_own_stringF _ rfl _ _ 77 9 rfl B 5 i0 Tryz.underlying77 Tryz.underlying9 hi hz0 hz1 hz2 _ _ _ rfl hown s rfl ?c3 ?c4 ?c5 ?_)
 case c3 => unfold maxLen; omega
 case c4 => omega
 case c5 => have := hb1.size; omega
 intro v' w2 hown' hgrow _
 have hlt : b < w1.heap.size := by
  rcases Nat.lt_or_ge b w1.heap.size with h' | h'
  ·exact h'
  ·simp [Array.getElem?_eq_none h'] at hbk
 have hb2 : w2.heap[b]? = some (.cells #[.pointer (some ⟨b, 0, none⟩), v] 117 (0, 0)) := by
  rw [hgrow.block b hlt (fun e => hne e.symm)]
  exact hbk
 have d0 : w2.cell? ⟨b, 0, none⟩ = some (.pointer (some ⟨b, 0, none⟩)) := by rw [Lib.cell_of_heap hb2]; rfl
 have d1 : w2.cell? ⟨b, 1, none⟩ = some v := by rw [Lib.cell_of_heap hb2]; rfl
 have f1 : w2.frozen? ⟨b, 1, none⟩ = false := Lib.frozen_of_heap hb2 1
 obtain ⟨ao, n', cap, rfl⟩ : ∃ ao n' cap, v' = .slice ao n' cap := by
  rcases hown'.2 with ⟨hv, _⟩ | ⟨g, cap, cur, fz, hv, _⟩
  ·exact ⟨_, _, _, hv⟩
  ·exact ⟨_, _, _, hv⟩
 go_wp2_with fail
 go_ret2
 refine ⟨rfl, ?_, ?_, (hk1.grown hgrow (Lib.ownsRowF_kind hown)).setCell ⟨b, 1, none⟩ rfl _⟩
 ·exact Lib.BuilderAtF.put (T := 117) (e := 5) hB hb2 (bs' := bs ++ Lib.strCells s) (by simpa [Lib.strCells_length] using hown') Pt
 ·exact (hb1.grown hgrow (by have := hb1.size; omega) (fun k hk => (hown.lt k hk).1)).setCell (p := ⟨b, 1, none⟩) hB _
theorem Zs (B b : Nat) (l : List UInt8) (w : World) (h : Lib.IsBuilderF 117 5 B b (Lib.byteCells l) w) (hBw : B ≤ w.heap.size) :
  Calls Tryz.prog 94 #[.pointer (some ⟨b, 0, none⟩)] w fun e w' => e = .returned (.string ⟨l.toArray⟩) ∧ (Lib.IsBuilderF 117 5 B b (Lib.byteCells l) w' ∧ Below B w w' ∧ Lib.OthersKept 5 (some b) w w') :=
 Any.Builder_String_any_k Tryz.bldG ⟨⟨by kernel_rfl, by kernel_rfl⟩, Tryz.underlying5, Tryz.isAgg5, Tryz.sizeOf5, Tryz.zeroValue5, by kernel_rfl, by kernel_rfl, by kernel_rfl, by decide⟩ B b l w h hBw
end
section
section
variable {t : ay}
theorem Dc (h : az t = 0) : ∀ (d i j : Nat), t.ps.length - i ≤ d → i < t.ps.length → j < t.ps.length → bS (ew t) (cu t) i j = l5 t.ps i j
 | 0, i, _, hd, hi, _ => by omega
 | d + 1, i, j, hd, hi, hj => by
  obtain ⟨_, _, _, hok, _⟩ := aD h
  have hw := (dz h).wf
  rw [Bool.eq_iff_iff, Da hok hj, gG hw hi, Bool.or_eq_true, beq_iff_eq, List.any_eq_true]
  constructor
  ·rintro (e | ⟨c, hc, e⟩)
   ·exact .inl e
   ·rw [iN] at hc
    obtain ⟨h1, h2, h3⟩ := cr.1 hc
    exact .inr ⟨c, h1, h2, h3, by rw [← Dc h d c j (by omega) h1 hj]; exact e⟩
  ·rintro (e | ⟨c, h1, h2, h3, e⟩)
   ·exact .inl e
   ·exact .inr ⟨c, by rw [iN]; exact cr.2 ⟨h1, h2, h3⟩, by rw [Dc h d c j (by omega) h1 hj]; exact e⟩
end
end
section
open Go.RowKit Go.Deep
deriving instance DecidableEq for UR
end
end Go.Proofs.YthgabkgmkolobaaGreat
