/- The contract of layer 31's reference's SameTree, at trees that are the same. The example .. -/
import Derived.Test.YteegefnjnikngaaGreatQ1
import Derived.Test.YteegefnjnikngaaGreatQ14
import Derived.Test.YteegefnjnikngaaGreatQ7
import Derived.Test.YteegefnjnikngaaGreatQ8
import Derived.Test.YteegefnjnikngaaGreatQ26
import Derived.Lib.SliceRun
import Derived.Test.YteegefnjnikngaaGreatQ19
import Derived.Test.YteegefnjnikngaaGreatQ22
import Derived.Test.YteegefnjnikngaaGreatQ16
import Derived.Test.YteegefnjnikngaaGreatQ25
import Derived.Test.YteegefnjnikngaaGreatQ24
import Derived.Test.YteegefnjnikngaaGreatQ20
import Derived.Test.YteegefnjnikngaaGreatQ18
import Derived.Shelf.SlGeneric
import Derived.Shelf.Strings.BuilderK
import Derived.Ground.NamesProg
import Derived.Ground.Names2Prog
import Derived.Test.YteegefnjnikngaaGreatProg
import Derived.Test.YteegefnjnikngaaGreatQ17
import Derived.Test.YteegefnjnikngaaGreatQ6
set_option maxRecDepth 100000
namespace Go.Proofs.YteegefnjnikngaaGreat
section
open Go.RowKit Go.Deep
set_option maxHeartbeats 2000000 in
theorem D8 (S T : Nat → Prop) (w : World) (v u : Value) (t : av) (h : ay S w v t) (h2 : ay T w u t) (hp : t.ps.length ≤ 1000000) (hn : t.ns.length ≤ 1000000) :
  Calls Tryz.prog 44 #[v, u] w fun e w' => e = .returned (.bool true) ∧ Up w w' := by
 obtain ⟨P, N, rfl, hP, hN⟩ := h
 obtain ⟨P2, N2, rfl, gh, gj⟩ := h2
 obtain ⟨pp, pc, rfl, _, _⟩ := aA.open hP
 obtain ⟨np, nc, rfl, _, _⟩ := aA.open hN
 obtain ⟨o7, o8, rfl, _, _⟩ := aA.open gh
 obtain ⟨o9, pg, rfl, _, _⟩ := aA.open gj
 have hP : ax S w (.slice pp t.ps.length pc) t.ps := hP
 have hN : au S w (.slice np t.ns.length nc) t.ns := hN
 have gh : ax T w (.slice o7 t.ps.length o8) t.ps := gh
 have gj : au T w (.slice o9 t.ns.length pg) t.ns := gj
 have aS := Up.alloc w (.cells #[.slice pp t.ps.length pc, .slice np t.ns.length nc] 39)
 have aF := Up.alloc (w.alloc (.cells #[.slice pp t.ps.length pc, .slice np t.ns.length nc] 39)) (.cells #[.slice o7 t.ps.length o8, .slice o9 t.ns.length pg] 39)
 have hu := aS.trans aF
 have a0 := aF.cell (dO w (.slice pp t.ps.length pc) (.slice np t.ns.length nc) 39)
 have a1 := aF.cell (dP w (.slice pp t.ps.length pc) (.slice np t.ns.length nc) 39)
 have b0 := dO (w.alloc (.cells #[.slice pp t.ps.length pc, .slice np t.ns.length nc] 39)) (.slice o7 t.ps.length o8) (.slice o9 t.ns.length pg) 39
 have b1 := dP (w.alloc (.cells #[.slice pp t.ps.length pc, .slice np t.ns.length nc] 39)) (.slice o7 t.ps.length o8) (.slice o9 t.ns.length pg) 39
 rw [World.size_alloc] at b0 b1
 have HP := aa (ax.keep hP (hu.kept S))
 have HN := aa (au.keep hN (hu.kept S))
 have Ut := aa (ax.keep gh (hu.kept T))
 have D9 := aa (au.keep gj (hu.kept T))
 have HU := aa hu
 have A0 := aa a0
 have A1 := aa a1
 have Uu := aa b0
 have Uv := aa b1
 have d0 : ((t.ps.length : Int) != (t.ps.length : Int)) = false := by simp
 have d1 : ((t.ns.length : Int) != (t.ns.length : Int)) = false := by simp
 clear hP hN gh gj hu aS aF
 go_enter Tryz.func44, Tryz.ntmps44
 go_wp2_with fail
 clear a0 a1 b0 b1
 generalize (w.alloc (.cells #[.slice pp t.ps.length pc, .slice np t.ns.length nc] 39)).alloc (.cells #[.slice o7 t.ps.length o8, .slice o9 t.ns.length pg] 39) = w1 at *
 go_loopw [5] (fun i wr => ∃ k : Nat, k ≤ t.ps.length ∧ i = .int .i64 k ∧ Hid (QD w1 wr)) (fun i _ => t.ps.length - (intOf i).toNat)
 case atStart => exact ⟨0, Nat.zero_le _, rfl, QD.refl _⟩
 case round =>
  obtain ⟨k, hk, rfl, hQ⟩ := hrel
  have a0 := hQ.out.up.cell A0.out
  have b0 := hQ.out.up.cell Uu.out
  by_cases hlt : k < t.ps.length
  ·obtain ⟨b, off, rfl, hc⟩ := dQ (ax.keep HP.out (hQ.out.kept S)) hlt
   obtain ⟨b2, off2, rfl, hc2⟩ := dQ (ax.keep Ut.out (hQ.out.kept T)) hlt
   have i1 : (0 : Int) ≤ (k : Int) := by omega
   have i2 : (k : Int) < (t.ps.length : Int) := by omega
   generalize gi t.ps k = x at *
   have j1 : (x != x) = false := by simp
   go_wp2_with fail
   go_quiet (fail)
   go_wp2_with fail
   go_roundw
   case rel => exact ⟨k + 1, by omega, by go_num, hQ.out.drewN nq⟩
   case measure => simp [intOf]; omega
  ·obtain rfl : k = t.ps.length := by omega
   have Uw := aa hQ.out
   clear hlt hk
   go_wp2_with fail
   go_loopw [6] (fun i wr => ∃ k : Nat, k ≤ t.ns.length ∧ i = .int .i64 k ∧ Hid (QD w1 wr)) (fun i _ => t.ns.length - (intOf i).toNat)
   case atStart => exact ⟨0, Nat.zero_le _, rfl, Uw.out⟩
   case round =>
    obtain ⟨k, hk, rfl, hQ⟩ := hrel
    have a1 := hQ.out.up.cell A1.out
    have b1 := hQ.out.up.cell Uv.out
    by_cases hlt : k < t.ns.length
    ·obtain ⟨b, off, rfl, hc⟩ := bQ (au.keep HN.out (hQ.out.kept S)) hlt
     obtain ⟨b2, off2, rfl, hc2⟩ := bQ (au.keep D9.out (hQ.out.kept T)) hlt
     have i1 : (0 : Int) ≤ (k : Int) := by omega
     have i2 : (k : Int) < (t.ns.length : Int) := by omega
     generalize gs t.ns k = x at *
     have j1 : (x.toList == x.toList) = true := by simp
     go_wp2_with fail
     go_quiet (fail)
     go_wp2_with fail
     go_roundw
     case rel => exact ⟨k + 1, by omega, by go_num, hQ.out.drewN nq⟩
     case measure => simp [intOf]; omega
    ·obtain rfl : k = t.ns.length := by omega
     clear hlt hk
     go_wp2_with fail
     go_ret
     exact ⟨rfl, HU.out.trans hQ.out.up⟩
end
section
open Go.RowKit Go.Deep
def t3 : av := ⟨[-1, 0, 1, 1, 0], [⟨#[]⟩, ⟨#[]⟩, ⟨#[65]⟩, ⟨#[66]⟩, ⟨#[67]⟩]⟩
def s3 : List Int := [0, 1, 1]
def u2 : List (List Int) := [[0, 1], [1, 0]]
theorem pE (w : World) (cs : Array Value) (T : TypeId) (xs : List Int) (hcs : cs.toList = xs.map (Value.int .i64)) (n : Nat) (hn : n = xs.length) : ax Any (w.alloc (.cells cs T)) (.slice (some ⟨w.heap.size, 0, none⟩) n n) xs := by
 subst hn
 refine ⟨_, _, rfl, Nat.le_refl _, .inr ⟨_, 0, rfl, trivial, fun k hk => ?_⟩⟩
 rw [Nat.zero_add, aK, ← Array.getElem?_toList, hcs]
 simp [gi, hk]
theorem Ea (w : World) (cs : Array Value) (T : TypeId) (xs : List ByteArray) (hcs : cs.toList = xs.map Value.string) (n : Nat) (hn : n = xs.length) : au Any (w.alloc (.cells cs T)) (.slice (some ⟨w.heap.size, 0, none⟩) n n) xs := by
 subst hn
 refine ⟨_, _, rfl, Nat.le_refl _, .inr ⟨_, 0, rfl, trivial, fun k hk => ?_⟩⟩
 rw [Nat.zero_add, aK, ← Array.getElem?_toList, hcs]
 simp [gs, hk]
end
section
section
variable {F : aL} {n : Nat} {rk : Nat → Nat}
theorem NP (h : Wf F n rk) : ∀ {d i : Nat} (p : Option Nat) (np : Int) (s : tC), i < n → rk i ≤ d → (bz F rk i).Nodup → p ≠ some i → s.mp.lookup p = some np → (∀ j ∈ bz F rk i, s.mp.lookup (some j) = none) →
  Cq s ((cK F rk i p).foldl (lg F) s) (psR (aM F rk i) s.ps.length np) (b7 (aM F rk i)) (bz F rk i) := by
 intro d
 induction d with
 | zero =>
  intro i p np s hi hd Ux hp hl hn
  have hk : F.kids i = [] := by
   cases hk : F.kids i with
   | nil => rfl
   | cons k l => have := (h.kid i hi k (by rw [hk]; simp)).2; omega
  rw [eH h hi, cI h hi, bI h hi, hk]
  have hni := hn i (by rw [bI h hi]; simp)
  refine ⟨?_, ?_, fun k hk2 => cF _ (hk2 i (by simp))⟩
  ·show s.ps ++ [((ji s.mp (some i) _).lookup p).getD 0] = _
   rw [cF _ hp, hl]; rfl
  ·rfl
 | succ d ih =>
  intro i p np s hi hd Ux hp hl hn
  rw [eH h hi, cI h hi, bI h hi]
  have hni := hn i (by rw [bI h hi]; simp)
  have fF := Ux
  rw [bI h hi, List.nodup_cons] at fF
  have key : ∀ (l : List Nat), (∀ k ∈ l, k ∈ F.kids i) → (l.flatMap fun k => bz F rk k).Nodup → (∀ k ∈ l, i ∉ bz F rk k) → ∀ (s2 : tC) (own : Nat), s2.mp.lookup (some i) = some (own : Int) → (∀ k ∈ l, ∀ j ∈ bz F rk k, s2.mp.lookup (some j) = none) →
    Cq s2 ((l.flatMap fun k => cK F rk k (some i)).foldl (lg F) s2) (psRs (l.map (aM F rk)) own s2.ps.length) (cu (l.map (aM F rk))) (l.flatMap fun k => bz F rk k) := by
   intro l
   induction l with
   | nil => intro _ _ _ s2 own _ _; exact ⟨by simp [psRs], by simp [cu], fun _ _ => rfl⟩
   | cons c l ihl =>
    intro hin hdl hil s2 own ho hno
    have hcc := h.kid i hi c (hin c (by simp))
    rw [List.flatMap_cons, List.foldl_append, List.flatMap_cons]
    rw [List.flatMap_cons, List.nodup_append] at hdl
    have h1 := ih (some i) (own : Int) s2 hcc.1 (by omega) hdl.1 (fun e => by
     injection e with e
     have := hcc.2; rw [e] at this; omega) ho (hno c (by simp))
    have h2 := ihl (fun k hk => hin k (by simp [hk])) hdl.2.1 (fun k hk => hil k (by simp [hk])) ((cK F rk c (some i)).foldl (lg F) s2) own
     ((h1.old (some i) (fun j hj e => by injection e with e; subst e; exact hil c (by simp) hj)).trans ho)
     (fun k hk j hj => (h1.old (some j) (fun j2 hj2 e => by
      injection e with e; subst e
      exact hdl.2.2 j hj2 j (List.mem_flatMap.2 ⟨k, hk, hj⟩) rfl)).trans (hno k (by simp [hk]) j hj))
    refine ⟨?_, ?_, fun k hk => ?_⟩
    ·rw [h2.ps, h1.ps, List.map_cons, psRs, List.append_assoc, List.length_append, jA]
    ·rw [h2.ns, h1.ns, List.map_cons, cu, List.append_assoc]
    ·rw [h2.old k (fun j hj => hk j (by simp [hj])), h1.old k (fun j hj => hk j (by simp [hj]))]
  have hin : ∀ k ∈ F.kids i, i ∉ bz F rk k := fun k hk hm => fF.1 (List.mem_flatMap.2 ⟨k, hk, hm⟩)
  have h3 := key (F.kids i) (fun k hk => hk) fF.2 hin (lg F s (i, p)) s.ps.length (qi _ hni) (fun k hk j hj => by
   show (ji s.mp (some i) _).lookup (some j) = none
   rw [cF _ (fun e => by injection e with e; subst e; exact hin k hk hj)]
   exact hn j (by rw [bI h hi]; exact List.mem_cons_of_mem _ (List.mem_flatMap.2 ⟨k, hk, hj⟩)))
  have hps : (lg F s (i, p)).ps = s.ps ++ [np] := by
   show s.ps ++ [((ji s.mp (some i) _).lookup p).getD 0] = _
   rw [cF _ hp, hl]; rfl
  rw [List.foldl_cons]
  refine ⟨?_, ?_, fun k hk => ?_⟩
  ·rw [h3.ps, hps, psR, List.append_assoc, List.length_append]; rfl
  ·rw [h3.ns]
   show (s.ns ++ [F.nm i]) ++ _ = _
   rw [b7, List.append_assoc]; rfl
  ·rw [h3.old k (fun j hj => hk j (by simp [hj]))]
   exact cF _ (hk i (by simp))
theorem FP (h : Wf F n rk) {i : Nat} (hi : i < n) (fF : (bz F rk i).Nodup) : ew F rk i = flat (aM F rk i) := by
 have h1 := NP h (d := rk i) none (-1) zJ hi (Nat.le_refl _) fF (fun e => by cases e) rfl (fun j _ => rfl)
 unfold ew flat bW
 rw [h1.ps, h1.ns]
 rfl
end
end
section
open Go.RowKit Go.Deep
theorem Lb {base : Nat} {e : TypeId} {w : World} {g n cap : Nat} {xs : List Value} (h : az base e w (.slice (some ⟨g, 0, none⟩) n cap) xs) {m : Nat} (hm : m ≤ n) : az base e w (.slice (some ⟨g, 0, none⟩) m cap) (xs.take m) := by
 obtain ⟨h1, h2⟩ := h
 rcases h2 with ⟨e1, _⟩ | ⟨g2, cW, cur, e1, hg, hc, hn, hcm, hcs, ht⟩
 ·cases e1
 ·injection e1 with a1 a2 a3
  injection a1 with a1
  injection a1 with a1
  subst a1; subst a3
  have hnx : n = xs.length := a2
  have hl : (xs.take m).length = m := by rw [List.length_take]; omega
  refine ⟨by rw [Nat.mul_one], .inr ⟨g, cap, cur, by rw [hl], hg, hc, by omega, hcm, hcs, ?_⟩⟩
  rw [hl, Nat.mul_one, ← ht, List.take_take]
  congr 1; omega
theorem BF {base : Nat} {e : TypeId} {w : World} {g n cap : Nat} {xs : List Value} (h : az base e w (.slice (some ⟨g, 0, none⟩) n cap) xs) {j : Nat} {u : Value} (hj : xs[j]? = some u) : w.cell? ⟨g, j, none⟩ = some u ∧ w.frozen? ⟨g, j, none⟩ = false := by
 have hl := (List.getElem?_eq_some_iff.1 hj).1
 obtain ⟨g2, cW, e1, _, _, hc, hf, _⟩ := h.set hl
 injection e1 with a1
 injection a1 with a1
 injection a1 with a1
 subst a1
 refine ⟨?_, hf⟩
 rw [hc]
 congr 1
 rw [List.getD_eq_getElem?_getD, hj]; rfl
section
variable {A : Nat → Nat} {P : Nat → Bool}
end
end
section
section
variable {names : List ByteArray} {l : List AV} {S : List (List Int)}
end
end
section
open Go.RowKit Go.Deep
deriving instance DecidableEq for AV
end
section
open Go.RowKit Go.Deep
end
section
open Go.RowKit Go.Deep
end
section
open Go.RowKit Go.Deep
section
variable {A : Nat → Nat} {P : Nat → Bool} {base : Nat} {w wr : World} {g cap : Nat} {ks : List Nat} {X : List Value}
end
end
section
section
variable {F : aL} {n : Nat} {rk : Nat → Nat} {P : Nat → Bool}
theorem Lc (h : Wf F n rk) {i : Nat} (hi : i < n) (hg : ja (aM F rk i)) : aG (aM F rk i) ≤ n := by
 rw [← iC, qj h hi (Nat.le_refl _), List.length_map]
 exact mg (yT h _ i (Nat.le_refl _) hi hg) fun x hx => l9 h hi (Nat.le_refl _) ((cV h hi (Nat.le_refl _)).1 hx)
end
end
section
section
variable {names : List ByteArray} {l : List AV}
end
end
section
open Go.RowKit Go.Deep
end
section
open Go.RowKit Go.Deep
end
section
open Go.RowKit Go.Deep
end
section
open Go.RowKit Go.Deep
end
end Go.Proofs.YteegefnjnikngaaGreat
namespace Go.Proofs
open Go.Shelf
def Tryz.bldG_ren : Go.Shelf.Ren := ⟨fun | 169 => 101 | n => n, fun | 70 => 120 | 9 => 9 | 0 => 0 | 72 => 122 | 37 => 80 | 127 => 171 | 3 => 3 | 5 => 5 | n => n, fun | n => n⟩
theorem Tryz.bldG : Go.Proofs.Lays.n169 Tryz.prog Tryz.bldG_ren := {
 mixed := by kernel_rfl
 f169 := Tryz.func101.trans (congrArg some (by kernel_rfl))
 t0 := Tryz.underlying0
 a0 := Tryz.isAgg0
 z0 := Tryz.sizeOf0
 v0 := Tryz.zeroValue0
 t3 := Tryz.underlying3
 a3 := Tryz.isAgg3
 z3 := Tryz.sizeOf3
 v3 := Tryz.zeroValue3
 t9 := Tryz.underlying9
 a9 := Tryz.isAgg9
 z9 := Tryz.sizeOf9
 v9 := Tryz.zeroValue9
 t37 := Tryz.underlying80
 a37 := Tryz.isAgg80
 z37 := Tryz.sizeOf80
 v37 := Tryz.zeroValue80
 t70 := Tryz.underlying120
 a70 := Tryz.isAgg120
 z70 := Tryz.sizeOf120
 v70 := Tryz.zeroValue120
 t72 := Tryz.underlying122
 a72 := Tryz.isAgg122
 z72 := Tryz.sizeOf122
 v72 := Tryz.zeroValue122
 t127 := Tryz.underlying171
 a127 := Tryz.isAgg171
 z127 := Tryz.sizeOf171
 v127 := Tryz.zeroValue171 }
end Go.Proofs
namespace Go.Proofs.YteegefnjnikngaaGreat
section
open Go.RowKit Go.Deep
section
variable {base n : Nat} {A : Nat → Nat} {kv : Nat → Value} {F : aL} {w w' : World}
end
end
section
section
variable {t : av}
theorem zS (h : aB t = 0) : ∀ (d i j : Nat), t.ps.length - i ≤ d → i < t.ps.length → j < t.ps.length → bA (eG t) (cB t) i j = nw t.ps i j
 | 0, i, _, hd, hi, _ => by omega
 | d + 1, i, j, hd, hi, hj => by
  obtain ⟨_, _, _, hok, _⟩ := aI h
  have hw := (dh h).wf
  rw [Bool.eq_iff_iff, Q2 hok hj, fh hw hi, Bool.or_eq_true, beq_iff_eq, List.any_eq_true]
  constructor
  ·rintro (e | ⟨c, hc, e⟩)
   ·exact .inl e
   ·rw [kz] at hc
    obtain ⟨h1, h2, h3⟩ := eY.1 hc
    exact .inr ⟨c, h1, h2, h3, by rw [← zS h d c j (by omega) h1 hj]; exact e⟩
  ·rintro (e | ⟨c, h1, h2, h3, e⟩)
   ·exact .inl e
   ·exact .inr ⟨c, by rw [kz]; exact eY.2 ⟨h1, h2, h3⟩, by rw [zS h d c j (by omega) h1 hj]; exact e⟩
end
end
section
open Go.RowKit Go.Deep
end
section
open Go.RowKit Go.Deep
end
section
open Go.RowKit Go.Deep
theorem Eb : (Tryz.prog.info? 122).map (·.size) = some 2 := by kernel_rfl
theorem NQ : liesAt Tryz.prog Tryz.prog.depth 122 (2 / Tryz.prog.cellsOf 122) 0 122 1 = true := by kernel_rfl
theorem Ec : (Tryz.prog.info? 5).map (fun i => (i.zero, i.size, i.bytes)) = some (some (.int .u8 0), 1, 1) := by kernel_rfl
theorem Ld : (122 : TypeId) ≠ 5 := by decide
set_option maxHeartbeats 1000000 in
theorem Q3 (b : Nat) (w : World) (h0 : w.cell? ⟨b, 0, none⟩ = some (.pointer (some ⟨b, 0, none⟩))) :
  Calls Tryz.prog 156 #[.pointer (some ⟨b, 0, none⟩)] w fun e w' => e = .returned (.tuple #[]) ∧ w' = w := by
 obtain ⟨j, hj, _⟩ := Option.map_eq_some_iff.1 Eb
 go_enter Tryz.func156, Tryz.ntmps156
 go_wp2_with fail
 rw [Lib.run_neq_ptr_same w _ Tryz.underlying120 hj]
 go_wp2_with fail
 go_end0
 exact ⟨rfl, rfl⟩
set_option maxHeartbeats 1000000 in
theorem NR (b : Nat) (w : World) (h0 : w.cell? ⟨b, 0, none⟩ = some (.pointer none)) (hsh : w.shape? b = some (122, 2)) (hfz : w.frozen? ⟨b, 0, none⟩ = false) :
  Calls Tryz.prog 156 #[.pointer (some ⟨b, 0, none⟩)] w fun e w' => e = .returned (.tuple #[]) ∧ w' = w.setCell ⟨b, 0, none⟩ (.pointer (some ⟨b, 0, none⟩)) := by
 obtain ⟨j, hj, hjs⟩ := Option.map_eq_some_iff.1 Eb
 go_enter Tryz.func156, Tryz.ntmps156
 go_wp2_with fail
 rw [Lib.run_to_unsafe w ⟨b, 0, none⟩ Tryz.underlying120 Tryz.underlying221 hj (by rw [hjs]; decide) hsh (Nat.zero_lt_succ 1)]
 simp only [Result.andThen]
 rw [Oper.upon_value]
 go_wp2_with fail
 rw [run_callFunc_extern Tryz.func215 (by kernel_rfl) (by kernel_rfl) (by kernel_rfl) (e := Extern.AbiNoEscape.same) (by kernel_rfl)]
 rw [Lib.run_noEscape]
 simp only [Result.andThen]
 rw [Oper.upon_value]
 go_wp2_with fail
 rw [Lib.run_from_unsafe w ⟨b, 0, none⟩ Tryz.underlying221 Tryz.underlying120 hj hsh NQ]
 simp only [Result.andThen]
 rw [Oper.upon_value]
 go_wp2_with fail
 go_end0
 exact ⟨rfl, rfl⟩
theorem Uy (B b : Nat) (bs : List Value) (w : World) (h : Lib.IsBuilderF 122 5 B b bs w) :
  Calls Tryz.prog 156 #[.pointer (some ⟨b, 0, none⟩)] w fun e w' => e = .returned (.tuple #[]) ∧ (Lib.BuilderAtF 122 5 B b (.pointer (some ⟨b, 0, none⟩)) bs w' ∧ Below B w w' ∧ Lib.OthersKept 5 (some b) w w') := by
 rcases h with h | h
 ·refine (NR b w h.cell0 h.shape h.frozen0).mono ?_
  rintro e w' ⟨rfl, rfl⟩
  exact ⟨rfl, h.used _, (Below.refl B w).setCell (p := ⟨b, 0, none⟩) h.1 _, (Lib.OthersKept.refl _ _ w).setCell ⟨b, 0, none⟩ rfl _⟩
 ·refine (Q3 b w h.cell0).mono ?_
  rintro e w' ⟨rfl, rfl⟩
  exact ⟨rfl, h, Below.refl B _, Lib.OthersKept.refl _ _ _⟩
set_option maxHeartbeats 2000000 in
theorem zT (B b : Nat) (bs : List Value) (c : Int) (w : World) (h : Lib.IsBuilderF 122 5 B b bs w) (hlen : bs.length + 1 ≤ 140737488355328) (hBw : B ≤ w.heap.size) :
  Calls Tryz.prog 99 #[.pointer (some ⟨b, 0, none⟩), .int .u8 c] w fun e w' => e = .returned .nilIface ∧ (Lib.BuilderAtF 122 5 B b (.pointer (some ⟨b, 0, none⟩)) (bs ++ [.int .u8 c]) w' ∧ Below B w w' ∧ Lib.OthersKept 5 (some b) w w') := by
 obtain ⟨i0, hi, hzz⟩ := Option.map_eq_some_iff.1 Ec
 simp only [Prod.mk.injEq] at hzz
 obtain ⟨hz0, hz1, hz2⟩ := hzz
 have JV := aa (Uy B b bs w h)
 clear h
 go_enter Tryz.func99, Tryz.ntmps99
 go_wp2_with fail
 refine JV.out.mono ?_
 rintro e w1 ⟨rfl, h1, hb1, hk1⟩
 obtain ⟨hB, v, hbk, hown, hne⟩ := h1
 have c0 : w1.cell? ⟨b, 0, none⟩ = some (.pointer (some ⟨b, 0, none⟩)) := by rw [Lib.cell_of_heap hbk]; rfl
 have c1 : w1.cell? ⟨b, 1, none⟩ = some v := by rw [Lib.cell_of_heap hbk]; rfl
 go_wp2_with (at_builtin; refine wpList_append_ownF _ rfl _ _ 80 rfl B 5 i0 (.int .u8 0) 1 1 Tryz.underlying80 hi hz0 hz1 hz2 rfl (by decide) _ _ _ rfl (hown.alloc _) ⟨w1.heap.size, 0, none⟩ 1 1 [.int .u8 c] rfl rfl ?c1 ?c2 ?c3 ?c4 ?c5 ?_)
 case c1 =>
  intro j u hj
  match j, hj with
  | 0, hj => simp at hj; subst hj; simp [Addr.add]
 case c2 => intro u hu; simp at hu; subst hu; rfl
 case c3 => unfold maxLen; omega
 case c4 => omega
 case c5 => have := hb1.size; simp; omega
 intro v' w2 hown' hgrow _
 have hlt : b < w1.heap.size := by
  rcases Nat.lt_or_ge b w1.heap.size with h' | h'
  ·exact h'
  ·simp [Array.getElem?_eq_none h'] at hbk
 have hb2 : w2.heap[b]? = some (.cells #[.pointer (some ⟨b, 0, none⟩), v] 122 (0, 0)) := by
  rw [hgrow.block b (by simp; omega) (fun e => hne e.symm), Lib.alloc_old w1 _ b hlt]
  exact hbk
 have d0 : w2.cell? ⟨b, 0, none⟩ = some (.pointer (some ⟨b, 0, none⟩)) := by rw [Lib.cell_of_heap hb2]; rfl
 have d1 : w2.cell? ⟨b, 1, none⟩ = some v := by rw [Lib.cell_of_heap hb2]; rfl
 have f1 : w2.frozen? ⟨b, 1, none⟩ = false := Lib.frozen_of_heap hb2 1
 obtain ⟨g, cap, rfl⟩ : ∃ g cap, v' = .slice (some ⟨g, 0, none⟩) (bs.length + 1) cap := by
  rcases hown'.2 with ⟨_, h0⟩ | ⟨g, cap, cur, fz, hv, _⟩
  ·omega
  ·exact ⟨g, cap, hv⟩
 go_wp2_with fail
 go_ret
 refine ⟨rfl, ?_, ?_, ((hk1.alloc _).grown hgrow (Lib.ownsRowF_kind (hown.alloc _))).setCell ⟨b, 1, none⟩ rfl _⟩
 ·exact Lib.BuilderAtF.put (T := 122) (e := 5) hB hb2 (bs' := bs ++ [.int .u8 c]) (by simpa using hown') Ld
 ·exact ((hb1.alloc (by have := hb1.size; omega) _).grown hgrow (by have := hb1.size; simp; omega) (fun k hk => (hown.lt k hk).1)).setCell (p := ⟨b, 1, none⟩) hB _
set_option maxHeartbeats 2000000 in
theorem Uz (B b : Nat) (bs : List Value) (s : ByteArray) (w : World) (h : Lib.IsBuilderF 122 5 B b bs w) (hlen : bs.length + s.size ≤ 140737488355328) (hBw : B ≤ w.heap.size) :
  Calls Tryz.prog 98 #[.pointer (some ⟨b, 0, none⟩), .string s] w fun e w' => e = .returned (.tuple #[.int .i64 s.size, .nilIface]) ∧ (Lib.BuilderAtF 122 5 B b (.pointer (some ⟨b, 0, none⟩)) (bs ++ Lib.strCells s) w' ∧ Below B w w' ∧ Lib.OthersKept 5 (some b) w w') := by
 obtain ⟨i0, hi, hzz⟩ := Option.map_eq_some_iff.1 Ec
 simp only [Prod.mk.injEq] at hzz
 obtain ⟨hz0, hz1, hz2⟩ := hzz
 have JV := aa (Uy B b bs w h)
 clear h
 go_enter Tryz.func98, Tryz.ntmps98
 go_wp2_with fail
 refine JV.out.mono ?_
 rintro e w1 ⟨rfl, h1, hb1, hk1⟩
 obtain ⟨hB, v, hbk, hown, hne⟩ := h1
 have c0 : w1.cell? ⟨b, 0, none⟩ = some (.pointer (some ⟨b, 0, none⟩)) := by rw [Lib.cell_of_heap hbk]; rfl
 have c1 : w1.cell? ⟨b, 1, none⟩ = some v := by rw [Lib.cell_of_heap hbk]; rfl
 go_wp2_with (at_builtin; refine Lib.wpList_append_own_stringF _ rfl _ _ 80 9 rfl B 5 i0 Tryz.underlying80 Tryz.underlying9 hi hz0 hz1 hz2 _ _ _ rfl hown s rfl ?c3 ?c4 ?c5 ?_)
 case c3 => unfold maxLen; omega
 case c4 => omega
 case c5 => have := hb1.size; omega
 intro v' w2 hown' hgrow _
 have hlt : b < w1.heap.size := by
  rcases Nat.lt_or_ge b w1.heap.size with h' | h'
  ·exact h'
  ·simp [Array.getElem?_eq_none h'] at hbk
 have hb2 : w2.heap[b]? = some (.cells #[.pointer (some ⟨b, 0, none⟩), v] 122 (0, 0)) := by
  rw [hgrow.block b hlt (fun e => hne e.symm)]
  exact hbk
 have d0 : w2.cell? ⟨b, 0, none⟩ = some (.pointer (some ⟨b, 0, none⟩)) := by rw [Lib.cell_of_heap hb2]; rfl
 have d1 : w2.cell? ⟨b, 1, none⟩ = some v := by rw [Lib.cell_of_heap hb2]; rfl
 have f1 : w2.frozen? ⟨b, 1, none⟩ = false := Lib.frozen_of_heap hb2 1
 obtain ⟨ao, n', cap, rfl⟩ : ∃ ao n' cap, v' = .slice ao n' cap := by
  rcases hown'.2 with ⟨hv, _⟩ | ⟨g, cap, cur, fz, hv, _⟩
  ·exact ⟨_, _, _, hv⟩
  ·exact ⟨_, _, _, hv⟩
 go_wp2_with fail
 go_ret2
 refine ⟨rfl, ?_, ?_, (hk1.grown hgrow (Lib.ownsRowF_kind hown)).setCell ⟨b, 1, none⟩ rfl _⟩
 ·exact Lib.BuilderAtF.put (T := 122) (e := 5) hB hb2 (bs' := bs ++ Lib.strCells s) (by simpa [Lib.strCells_length] using hown') Ld
 ·exact (hb1.grown hgrow (by have := hb1.size; omega) (fun k hk => (hown.lt k hk).1)).setCell (p := ⟨b, 1, none⟩) hB _
theorem UA (B b : Nat) (l : List UInt8) (w : World) (h : Lib.IsBuilderF 122 5 B b (Lib.byteCells l) w) (hBw : B ≤ w.heap.size) :
  Calls Tryz.prog 101 #[.pointer (some ⟨b, 0, none⟩)] w fun e w' => e = .returned (.string ⟨l.toArray⟩) ∧ (Lib.IsBuilderF 122 5 B b (Lib.byteCells l) w' ∧ Below B w w' ∧ Lib.OthersKept 5 (some b) w w') :=
 Any.Builder_String_any_k Tryz.bldG ⟨⟨by kernel_rfl, by kernel_rfl⟩, Tryz.underlying5, Tryz.isAgg5, Tryz.sizeOf5, Tryz.zeroValue5, by kernel_rfl, by kernel_rfl, by kernel_rfl, by decide⟩ B b l w h hBw
end
section
section
variable {t : av} {leaf : Nat}
end
end
section
section
variable {t : av}
end
section
variable {t : av}
end
end
section
open Go.RowKit Go.Deep
end
end Go.Proofs.YteegefnjnikngaaGreat
