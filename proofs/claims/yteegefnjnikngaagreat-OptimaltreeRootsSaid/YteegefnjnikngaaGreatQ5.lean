/- The contracts of parsimony.best, least. The contract of layer 31's reference's children. .. -/
import Derived.Test.YteegefnjnikngaaGreatQ4
import Derived.Test.YteegefnjnikngaaGreatQ1
import Derived.RangeFuncNested
import Derived.RangeFuncBound
import Derived.RangeFuncCalls
import Derived.RangeFuncLeaves
import Derived.Shelf.Abstract
import Derived.Shelf.RegionOpen
import Derived.WalkKit
import Derived.OwnWalkIn
import Derived.TacticsInMore
import Derived.LoopNIn
import Derived.LoopIn
import Derived.Sort.QuietIn
import Derived.Stop.RegionWithIn
set_option maxRecDepth 100000
namespace Go.Proofs.YteegefnjnikngaaGreat
section
open Go.RowKit Go.Deep
def x9 (x : Int × Int) : Value := .tuple #[.int .i64 x.1, .int .i64 x.2]
set_option maxHeartbeats 800000 in
theorem XF (S T : Nat → Prop) (w : World) (vc vr : Value) (cs : List (List Int)) (row : List Int) (st : Nat) (hC : bh S w vc cs) (hR : aB T w vr row) (hst : st < cs.length)
  (hrl : row.length ≤ (gl cs st).length) (XG : row.length ≤ 1000) (hcb : ∀ k, 0 ≤ gi (gl cs st) k ∧ gi (gl cs st) k ≤ 1000) (hrb : ∀ k, gi row k ≤ 1000000000) :
  Calls Tryz.prog 247 #[vc, .int .i64 st, vr] w fun e w' => e = .returned (x9 (bG (gi (gl cs st)) (gi row) row.length)) ∧ w = w' := by
 obtain ⟨f, ij, hrow⟩ := hC
 obtain ⟨p, cap, rfl, hcap, H⟩ := aD.open ij
 obtain ⟨q, dM, rfl, BL, HR⟩ := aD.open hR
 obtain ⟨b, off, rfl, hc0⟩ := H st hst
 obtain ⟨q2, cap3, e3, hcap3, HC⟩ := aD.open (hrow st hst)
 rw [e3] at hc0
 have hbd := Ge (c := gi (gl cs st)) (row := gi row) (A := 1000000000) (by omega) hcb hrb
 have Oy := aa HR
 have HHC := aa HC
 have kr := aa hbd
 have Ef := aa hcb
 have jA := aa hrb
 have kM := lI (gi (gl cs st)) (gi row)
 have su := aa kM
 clear HR HC ij hrow H hR e3 hbd hcb hrb kM
 generalize gl cs st = XH at *
 unfold x9
 go_enter Tryz.func247, Tryz.ntmps247
 go_wp2_with fail
 go_loop [8, 9, 10, 11, 12, 15] (fun l o _ _ _ i => ∃ k : Nat, ∃ x y : Int, k ≤ row.length ∧ i = .int .i64 k ∧ l = .int .i64 x ∧ o = .int .i64 y ∧ -1 ≤ x ∧ x ≤ 1000001000 ∧ Hid (bG (gi XH) (gi row) k = (x, y))) (fun _ _ _ _ _ i => row.length - (intOf i).toNat)
 case atStart => exact ⟨0, -1, 0, by omega, rfl, rfl, rfl, by omega, by omega, rfl⟩
 case round =>
  obtain ⟨k, x, y, hk, rfl, rfl, rfl, gK, hl2, hx⟩ := hrel
  by_cases hlt : k < row.length
  ·obtain ⟨rb, ro, rfl, h1⟩ := Oy.out k hlt
   obtain ⟨cb, co, rfl, h2⟩ := HHC.out k (by omega)
   have hb1 := Ef.out k
   have hb2 := jA.out k
   have hs := su.out k
   have HS := aa hs
   clear Oy HHC kr Ef jA su hs
   generalize gi XH k = c at *
   generalize gi row k = r at *
   obtain ⟨hb1, hb3⟩ := hb1
   by_cases kN : r < 0
   ·go_wp2_with fail
    go_round
    case rel => exact ⟨k + 1, x, y, by omega, by go_num, rfl, rfl, gK, hl2, by unfold Hid; rw [HS.out, if_pos kN, hx.out]⟩
    case measure => simp [intOf]; omega
   ·by_cases hx0 : x < 0
    ·go_wp2_with fail
     go_round
     case rel => exact ⟨k + 1, c + r, k, by omega, by go_num, rfl, rfl, by omega, by omega, by unfold Hid; rw [HS.out, if_neg kN, hx.out, if_pos (.inl hx0)]⟩
     case measure => simp [intOf]; omega
    ·by_cases hlt2 : c + r < x
     ·go_wp2_with fail
      go_round
      case rel => exact ⟨k + 1, c + r, k, by omega, by go_num, rfl, rfl, by omega, by omega, by unfold Hid; rw [HS.out, if_neg kN, hx.out, if_pos (.inr hlt2)]⟩
      case measure => simp [intOf]; omega
     ·go_wp2_with fail
      go_round
      case rel => exact ⟨k + 1, x, y, by omega, by go_num, rfl, rfl, gK, hl2, by unfold Hid; rw [HS.out, if_neg kN, hx.out, if_neg (by simp; omega)]⟩
      case measure => simp [intOf]; omega
  ·obtain rfl : k = row.length := by omega
   clear hlt
   go_wp2_with fail
   go_ret2
   exact ⟨by rw [hx.out]; rfl, rfl⟩
set_option maxHeartbeats 800000 in
theorem VY (T : Nat → Prop) (w : World) (vr : Value) (row : List Int) (hR : aB T w vr row) (XG : row.length ≤ 1000) :
  Calls Tryz.prog 182 #[vr] w fun e w' => e = .returned (x9 (bG (fun _ => 0) (gi row) row.length)) ∧ w = w' := by
 obtain ⟨q, dM, rfl, BL, HR⟩ := aD.open hR
 have Oy := aa HR
 have kM := lI (fun _ => 0) (gi row)
 have su := aa kM
 clear HR hR kM
 unfold x9
 go_enter Tryz.func182, Tryz.ntmps182
 go_wp2_with fail
 go_loop [4, 5, 6, 7, 10] (fun l o _ _ i => ∃ k : Nat, ∃ x y : Int, k ≤ row.length ∧ i = .int .i64 k ∧ l = .int .i64 x ∧ o = .int .i64 y ∧ Hid (bG (fun _ => 0) (gi row) k = (x, y))) (fun _ _ _ _ i => row.length - (intOf i).toNat)
 case atStart => exact ⟨0, -1, 0, by omega, rfl, rfl, rfl, rfl⟩
 case round =>
  obtain ⟨k, x, y, hk, rfl, rfl, rfl, hx⟩ := hrel
  by_cases hlt : k < row.length
  ·obtain ⟨rb, ro, rfl, h1⟩ := Oy.out k hlt
   have hs := su.out k
   have HS := aa hs
   clear Oy su hs
   generalize gi row k = r at *
   by_cases kN : r < 0
   ·go_wp2_with fail
    go_round
    case rel => exact ⟨k + 1, x, y, by omega, by go_num, rfl, rfl, by unfold Hid; rw [HS.out, if_pos kN, hx.out]⟩
    case measure => simp [intOf]; omega
   ·by_cases hx0 : x < 0
    ·go_wp2_with fail
     go_round
     case rel => exact ⟨k + 1, r, k, by omega, by go_num, rfl, rfl, by unfold Hid; rw [HS.out, if_neg kN, hx.out, if_pos (.inl hx0), Int.zero_add]⟩
     case measure => simp [intOf]; omega
    ·by_cases hlt2 : r < x
     ·go_wp2_with fail
      go_round
      case rel => exact ⟨k + 1, r, k, by omega, by go_num, rfl, rfl, by unfold Hid; rw [HS.out, if_neg kN, hx.out, if_pos (.inr (by omega)), Int.zero_add]⟩
      case measure => simp [intOf]; omega
     ·go_wp2_with fail
      go_round
      case rel => exact ⟨k + 1, x, y, by omega, by go_num, rfl, rfl, by unfold Hid; rw [HS.out, if_neg kN, hx.out, if_neg (by simp; omega)]⟩
      case measure => simp [intOf]; omega
  ·obtain rfl : k = row.length := by omega
   clear hlt
   go_wp2_with fail
   go_ret2
   exact ⟨by rw [hx.out]; rfl, rfl⟩
end
section
open Go.RowKit Go.Deep
def XI (w : World) (l : List Nat) (e : Ending) (w' : World) : Prop := Below w.heap.size w w' ∧ ∃ v, e = .returned v ∧ aB (fun b => w.heap.size ≤ b) w' v (eO l)
set_option maxHeartbeats 800000 in
theorem K5 (S : Nat → Prop) (w : World) (v : Value) (t : ax) (n : Nat) (h : aC S w v t) (hp : t.ps.length ≤ 1000000) (hn : n < t.ps.length) :
  Calls Tryz.prog 103 #[v, .int .i64 n] w (XI w (aQ t.ps n)) := by
 obtain ⟨P, N, rfl, hP, hN⟩ := h
 have hb0 : Below w.heap.size w (w.alloc (.cells #[P, N] 39)) := (Below.refl _ _).alloc (Nat.le_refl _) _
 have hP1 := hP.keep (Kept.below hb0)
 have nt : (w.alloc (.cells #[P, N] 39)).cell? ⟨w.heap.size, 0, none⟩ = some P := by simp [World.cell?_alloc_new]
 obtain ⟨ps, ns⟩ := t
 simp only at *
 obtain ⟨p, cap, rfl, hcap, HP⟩ := aD.open hP1
 have hsz : (w.alloc (.cells #[.slice p ps.length cap, N] 39)).heap.size = w.heap.size + 1 := by simp
 have HS := aa hsz
 have jo := aa hb0
 have K2 := aa nt
 have xy := aa HP
 clear HP hP1 hP hN hb0 nt hsz
 go_enter Tryz.func103, Tryz.ntmps103
 go_wp2_with fail
 generalize hw0 : w.alloc (.cells #[.slice p ps.length cap, N] 39) = w0 at *
 clear hw0
 go_loopw [5, 6] (fun v i wr => ∃ k : Nat, n + 1 ≤ k ∧ k ≤ ps.length ∧ i = .int .i64 k ∧ aA (w.heap.size + 1) 3 wr v ((eO (cG ps n k)).map (Value.int .i64)) ∧ Below (w.heap.size + 1) w0 wr) (fun _ i _ => ps.length - (intOf i).toNat)
 case atStart => exact ⟨n + 1, Nat.le_refl _, by omega, by go_num, by rw [zM]; exact aA.nil _ _ _, Below.refl _ _⟩
 case round =>
  obtain ⟨k, hk1, hk, rfl, hown, hbr⟩ := hrel
  have nt : wr.cell? ⟨w.heap.size, 0, none⟩ = some (.slice p ps.length cap) := (hbr.cell (p := ⟨w.heap.size, 0, none⟩) (by simp)).trans K2.out
  by_cases hlt : k < ps.length
  ·obtain ⟨b, off, rfl, hc0⟩ := xy.out k hlt
   have hc : wr.cell? ⟨b, off + k, none⟩ = some (.int .i64 (gi ps k)) := by
    rw [hbr.cell (p := ⟨b, off + k, none⟩) (by have := World.block_lt_of_cell? _ _ hc0; have := HS.out; simp at *; omega)]; exact hc0
   have hsz : w.heap.size + 1 ≤ wr.heap.size := by have := hbr.size; have := HS.out; omega
   have kM := jU ps n k
   have su := aa kM
   have dF : Hid (((eO (cG ps n k)).map (Value.int .i64)).length ≤ 1000000) := by
    have := qu ps n k
    unfold Hid eO; rw [List.length_map, List.length_map]; omega
   clear hc0 kM xy
   generalize Ed : gi ps k = x at *
   clear Ed
   by_cases hx : x = n
   ·have hx1 : (x == (n : Int)) = true := by simp [hx]
    have HX : Hid (n < k ∧ x = n) := ⟨by omega, hx⟩
    clear hx
    go_wp2_with (at_builtin; refine mB wr rfl _ _ 26 rfl (w.heap.size + 1) 3 _ 8 Tryz.underlying26 Tryz.lK rfl (by decide) hown rfl _ rfl rfl dF.out hsz ?_; intro g cap w2 hown1 hg1 hb1)
    go_roundw
    case rel => exact ⟨k + 1, by omega, by omega, by go_num, by rw [su.out, if_pos HX.out, FQ, List.map_append]; rw [List.length_map] at hown1; exact hown1, hbr.trans hb1⟩
    case measure => simp [intOf]; omega
   ·have hx1 : (x == (n : Int)) = false := by simpa using hx
    have HX : Hid ¬ (n < k ∧ x = n) := fun h => hx h.2
    clear hx
    go_wp2_with fail
    go_roundw
    case rel => exact ⟨k + 1, by omega, by omega, by go_num, by rw [su.out, if_neg HX.out, List.append_nil]; exact hown, hbr⟩
    case measure => simp [intOf]; omega
  ·obtain rfl : k = ps.length := by omega
   clear hlt hk
   go_wp2_with fail
   go_ret
   exact ⟨jo.out.trans (hbr.mono (by omega)), _, rfl, hown.ints.sub fun b hb _ => by omega⟩
end
section
open Go.RowKit Go.Shelf Go.Deep
attribute [local go_sem] Oper.semAt_some
theorem Mz (w : World) (row : Option Nat) : w.grownBy w.drew row := ⟨rfl, rfl, rfl, Nat.le_refl _, fun _ _ _ => rfl⟩
abbrev Eg (ps : List Int) (node : Nat) := { x : Nat // x ∈ aQ ps node }
def vals {ps : List Int} {node : Nat} (l : List (Eg ps node)) : List Nat := l.map Subtype.val
theorem ya {ps : List Int} {node : Nat} (l : List (Eg ps node)) (x : Eg ps node) : vals (l ++ [x]) = vals l ++ [x.1] := by simp [vals]
theorem Gy (ps : List Int) (n k : Nat) (h : k ≤ ps.length) : cG ps n k <+: aQ ps n := by
 unfold aQ
 obtain ⟨d, hd⟩ : ∃ d, ps.length = k + d := ⟨ps.length - k, by omega⟩
 rw [hd]
 clear hd h
 induction d with
 | zero => exact List.prefix_rfl
 | succ d ih => rw [← Nat.add_assoc, jU]; exact ih.trans (List.prefix_append _ _)
theorem Ry {e : Ending} {A B : Prop} (h : (e = .returned (.bool true) ∧ A) ∨ (e = .returned (.bool false) ∧ B)) : ∃ bb, e = .returned (.bool bb) ∧ Hid ((bb = true ∧ A) ∨ (bb = false ∧ B)) := by
 rcases h with ⟨h1, h2⟩ | ⟨h1, h2⟩
 ·exact ⟨true, h1, .inl ⟨rfl, h2⟩⟩
 ·exact ⟨false, h1, .inr ⟨rfl, h2⟩⟩
def KS (T : Nat → Prop) (w w' : World) : Prop := ∀ b, T b → w'.heap[b]? = w.heap[b]?
theorem KS.refl (T : Nat → Prop) (w : World) : KS T w w := fun _ _ => rfl
theorem KS.trans {T : Nat → Prop} {a b c : World} (h : KS T a b) (k : KS T b c) : KS T a c := fun i hi => (k i hi).trans (h i hi)
theorem KS.cell {T : Nat → Prop} {a b : World} (h : KS T a b) {p : Addr} (hp : T p.block) : b.cell? p = a.cell? p := World.cell?_of_block (h p.block hp)
theorem KS.drew {T : Nat → Prop} {a b : World} (h : KS T a b) : KS T a b.drew := h
theorem KS.drewN {T : Nat → Prop} {a b : World} (h : KS T a b) (n : Nat) : KS T a (b.drewN n) := h
set_option maxHeartbeats 1000000 in
theorem Rz (n l Bn Bt : Nat) (T : Nat → Prop) (hn : 1 ≤ n) (ps : List Int) (node : Nat) (P : Value) (J Jx : List (Eg ps node) → World → Prop)
  (hY : ∀ pre x W, J pre W → pre.length < ps.length → YieldAt Fence.wide (n - 1) Tryz.prog l #[.int .i64 (x.1 : Int)] W fun e W' =>
   (e = .returned (.bool true) ∧ J (pre ++ [x]) W' ∧ KS T W W') ∨ (e = .returned (.bool false) ∧ Jx (pre ++ [x]) W'))
  (W : World) (Oz : AbidesFrom W.heap.size J) (cD : W.cell? ⟨Bn, 0, none⟩ = some (.int .i64 node)) (nt : W.cell? ⟨Bt, 0, none⟩ = some P) (hP : aB T W P ps) (Ua : T Bn) (Ub : T Bt)
  (Uc : node < ps.length) (hlen : ps.length ≤ 1000000) (h0 : J [] W) :
  CallsIn Fence.wide n Tryz.prog 282 #[.func (.yield l) #[] #[], .pointer (some ⟨Bn, 0, none⟩), .pointer (some ⟨Bt, 0, none⟩)] W fun e W' => (∃ v, e = .returned v) ∧
   ((∃ xs, vals xs = aQ ps node ∧ J xs W') ∨ (∃ pre, vals pre <+: aQ ps node ∧ Jx pre W')) := by
 obtain ⟨q, cap, rfl, hcap, ij⟩ := hP
 have iR := aa ij
 have HJA := aa Oz
 have nu := aa cD
 have K2 := aa nt
 have HY := aa hY
 clear ij Oz hY
 refine callsIn_of_wp Tryz.func282 rfl trivial ?_ rfl
 simp only [Tryz.ntmps282, List.size_toArray, List.length_cons, List.length_nil, Nat.reduceAdd, Nat.reduceSub, Array.replicate_succ, Array.replicate_zero, List.push_toArray, List.append_toArray, List.nil_append, List.cons_append]
 gi_wp2
 clear cD nt
 gi_loopw [4] (fun i wr => ∃ (k : Nat) (pre : List (Eg ps node)), node + 1 ≤ k ∧ k ≤ ps.length ∧ i = .int .i64 k ∧ vals pre = cG ps node k ∧ J pre wr ∧ KS T W wr) (fun i _ => ps.length - (intOf i).toNat)
 case atStart => exact ⟨node + 1, [], Nat.le_refl _, by omega, by go_num, (zM _ _).symm, h0, KS.refl _ _⟩
 case round =>
  obtain ⟨k, pre, hk1, hk, rfl, hpre, hJ, hbr⟩ := hrel
  have cD : wr.cell? ⟨Bn, 0, none⟩ = some (.int .i64 node) := (hbr.cell (p := ⟨Bn, 0, none⟩) Ua).trans nu.out
  have nt : wr.cell? ⟨Bt, 0, none⟩ = some (.slice q ps.length cap) := (hbr.cell (p := ⟨Bt, 0, none⟩) Ub).trans K2.out
  have Gz := aa hpre
  clear hpre
  by_cases hlt : k < ps.length
  ·have hsl2 := iR.out
   rcases hsl2 with h | ⟨b, off, rfl, hb, hcell⟩
   ·omega
   ·have hc : wr.cell? ⟨b, off + k, none⟩ = some (.int .i64 (gi ps k)) := (hbr.cell (p := ⟨b, off + k, none⟩) hb).trans (hcell k hlt)
    have kM := jU ps node k
    have hlen2 : pre.length < ps.length := by
     have h1 := qu ps node k
     have h2 := congrArg List.length Gz.out
     unfold vals at h2; rw [List.length_map] at h2; omega
    have hmem : gi ps k = node → k ∈ aQ ps node := fun h => bf.2 ⟨hlt, by omega, h⟩
    have GA := aa hmem
    have su := aa kM
    clear hcell kM hmem
    have i1 : (0 : Int) ≤ (k : Int) := by omega
    have i2 : (k : Int) < (ps.length : Int) := by omega
    generalize hx : gi ps k = x at *
    clear hx
    by_cases mC : x = node
    ·have hx1 : (x == (node : Int)) = true := by simp [mC]
     have HX := aa mC
     clear mC
     have hJ' : J pre wr.drew := HJA.out pre wr wr.drew none hJ (Mz _ _) (fun r e => by cases e)
     obtain ⟨fn, tmps, assign, body, hy, hR⟩ := HY.out pre ⟨k, GA.out HX.out⟩ wr.drew hJ' hlen2
     dsimp only at hy
     clear hJ'
     gi_wp2
     gi_region_with (refine hR.mono ?_; rintro e W3 eR; obtain ⟨bb, rfl, hq⟩ := Ry eR)
     all_goals
      gi_wp2
      ·have hbb := ‹(!bb) = true›
       have qX : bb = false ∧ Jx (pre ++ [⟨k, GA.out HX.out⟩]) W3 := by
        rcases hq.out with ⟨h1, _⟩ | h2
        ·rw [h1] at hbb; cases hbb
        ·exact h2
       refine bodyPost_ret (results_none rfl _ _ _) rfl ?_
       exact ⟨⟨_, rfl⟩, .inr ⟨pre ++ [⟨k, GA.out HX.out⟩], by
        rw [ya, Gz.out]
        have h3 := Gy ps node (k + 1) hlt
        rw [su.out, if_pos ⟨by omega, HX.out⟩] at h3; exact h3, qX.2⟩⟩
      ·have hbb := ‹(!bb) = false›
       have qX : bb = true ∧ J (pre ++ [⟨k, GA.out HX.out⟩]) W3 ∧ KS T wr.drew W3 := by
        rcases hq.out with h2 | ⟨h1, _⟩
        ·exact h2
        ·rw [h1] at hbb; cases hbb
       go_roundw
       case rel => exact ⟨k + 1, pre ++ [⟨k, GA.out HX.out⟩], by omega, by omega, by go_num, by rw [ya, Gz.out, su.out, if_pos ⟨by omega, HX.out⟩], qX.2.1, hbr.drew.trans qX.2.2⟩
       case measure => simp [intOf]; omega
    ·have hx1 : (x == (node : Int)) = false := by simpa using mC
     have HX := aa mC
     clear mC
     gi_wp2
     refine wpIn_region_quiet_lit rfl (by kernel_rfl) (by kernel_rfl) ?_
     repeat (gi_big_quiet_step (fail))
     refine BigFrame.wpQuietIn_skip (fun _ _ _ _ => trivial) rfl ?_
     simp only [Act.put, aq, au, ah]
     repeat (gi_big_quiet_step (fail))
     refine wpQuietIn_nil ?_
     intro _ hw'
     obtain ⟨nq, hw''⟩ := hw'
     subst hw''
     gi_wp2
     go_roundw
     case rel => exact ⟨k + 1, pre, by omega, by omega, by go_num, by rw [Gz.out, su.out, if_neg (fun h => HX.out h.2), List.append_nil], HJA.out pre wr _ none hJ ⟨rfl, rfl, rfl, Nat.le_refl _, fun _ _ _ => rfl⟩ (fun r e => by cases e), hbr.drewN _⟩
     case measure => simp [intOf]; omega
  ·gi_wp2
   go_end0
   obtain rfl : k = ps.length := by omega
   exact ⟨⟨_, rfl⟩, .inl ⟨pre, Gz.out, hJ⟩⟩
set_option maxHeartbeats 400000 in
theorem XJ (w : World) (v : Value) (P N : Value) (hv : v = .agg #[P, N]) (node : Nat) :
  Calls Tryz.prog 246 #[v, .int .i64 node] w fun e w' => e = .returned (.func (.func 282) #[] #[.pointer (some ⟨w.heap.size + 1, 0, none⟩), .pointer (some ⟨w.heap.size, 0, none⟩)]) ∧ w' = (w.alloc (.cells #[P, N] 39)).alloc (.cells #[.int .i64 node] 3) := by
 subst hv
 go_enter Tryz.func246, Tryz.ntmps246
 go_wp2_with fail
 go_ret
 exact ⟨rfl, rfl⟩
theorem MA (n : Nat) (hn : 1 ≤ n) (Bn Bt : Nat) (T : Nat → Prop) (ps : List Int) (node : Nat) (P : Value) (w : World) (hT : ∀ b, T b → b < w.heap.size)
  (cD : w.cell? ⟨Bn, 0, none⟩ = some (.int .i64 node)) (nt : w.cell? ⟨Bt, 0, none⟩ = some P) (hP : aB T w P ps) (Ua : T Bn) (Ub : T Bt) (Uc : node < ps.length) (hlen : ps.length ≤ 1000000) :
  SeqStopsK Fence.wide n Tryz.prog 282 #[.pointer (some ⟨Bn, 0, none⟩), .pointer (some ⟨Bt, 0, none⟩)] (fun x : Eg ps node => #[Value.int .i64 (x.1 : Int)]) (KS T)
   (fun xs => vals xs = aQ ps node) (fun pre => vals pre <+: aQ ps node) ps.length w := fun l J Jx W hW hJ _ hY h0 =>
 Rz n l Bn Bt T hn ps node P J Jx hY W hJ ((hW.cell (p := ⟨Bn, 0, none⟩) (hT _ Ua)).trans cD) ((hW.cell (p := ⟨Bt, 0, none⟩) (hT _ Ub)).trans nt)
  (hP.keep fun b hb _ => hW.block b (hT b hb)) Ua Ub Uc hlen h0
end
section
open Go.RowKit Go.Deep
set_option maxHeartbeats 1600000 in
theorem vY (S : Nat → Prop) (w : World) (v : Value) (t : ax) (h : aC S w v t) (hp : t.ps.length ≤ 1000000) (hn : t.ns.length ≤ 1000000) (hz : ∀ k, (gs t.ns k).size ≤ 70000) :
    Calls Tryz.prog 40 #[v] w fun e w' => e = .returned (.int .i64 (az t)) ∧ Below w.heap.size w w' := by
  obtain ⟨P, N, rfl, hP, hN⟩ := h
  obtain ⟨ps, ns⟩ := t
  simp only at *
  have dG : az ⟨ps, ns⟩ = if ps.length = 0 then 5 else if 64 < ps.length then 4 else if ns.length ≠ ps.length then 9 else if iJ ps then firstNZ (ja ps ns) ps.length else 2 := rfl
  have HF := aa dG
  clear dG
  have kj : Below w.heap.size w (w.alloc (.cells #[P, N] 39)) := (Below.refl _ _).alloc (Nat.le_refl _) _
  have hT0 : aC S (w.alloc (.cells #[P, N] 39)) (.agg #[P, N]) ⟨ps, ns⟩ := aC.keep ⟨P, N, rfl, hP, hN⟩ (Kept.below kj)
  have Ot := hP.keep (Kept.below kj)
  have Ou := hN.keep (Kept.below kj)
  clear hP hN
  obtain ⟨p, cap, rfl, hcap, HP⟩ := aD.open Ot
  obtain ⟨q, dM, rfl, BL, HN⟩ := aD.open Ou
  have K1 := aa HP
  have Gt := aa HN
  have GC := aa hT0
  have dX := aa kj
  clear Ot Ou HP HN hT0 kj
  by_cases h0 : ps.length = 0
  · have HX : Hid (ps.length = 0) := h0
    have h0' : ((ps.length : Int) == 0) = true := by simp [h0]
    clear h0
    go_enter Tryz.func40, Tryz.ntmps40
    go_wp2_with fail
    go_ret
    exact ⟨aO (by rw [HF.out, if_pos HX.out]), dX.out⟩
  have h0' : ((ps.length : Int) == 0) = false := by simpa using h0
  by_cases h1 : 64 < ps.length
  · go_enter Tryz.func40, Tryz.ntmps40
    go_wp2_with fail
    go_ret
    exact ⟨aO (by rw [HF.out, if_neg h0, if_pos h1]), dX.out⟩
  by_cases h2 : ns.length = ps.length
  · have Ec : ((ns.length : Int) != ps.length) = false := by simp [h2]
    have H2 := aa h2
    clear h2
    have nt : (w.alloc (.cells #[.slice p ps.length cap, .slice q ns.length dM] 39)).cell? ⟨w.heap.size, 0, none⟩ = some (.slice p ps.length cap) := by simp [World.cell?_alloc_new]
    have uO : (w.alloc (.cells #[.slice p ps.length cap, .slice q ns.length dM] 39)).cell? ⟨w.heap.size, 1, none⟩ = some (.slice q ns.length dM) := by simp [World.cell?_alloc_new]
    have hct : (w.alloc (.cells #[.slice p ps.length cap, .slice q ns.length dM] 39)).rowIs w.heap.size 39 2 (fun i => if i = 0 then .slice p ps.length cap else .slice q ns.length dM) :=
      World.rowIs_alloc w _ _ _ (fun i hi => by match i, hi with | 0, _ => rfl | 1, _ => rfl)
    have hsz : (w.alloc (.cells #[.slice p ps.length cap, .slice q ns.length dM] 39)).heap.size = w.heap.size + 1 := by simp
    have HS := aa hsz
    have K2 := aa nt
    have K3 := aa uO
    have zS := aa hct
    clear hsz uO hct
    go_enter Tryz.func40, Tryz.ntmps40
    go_wp2_with fail
    generalize hw0 : w.alloc (.cells #[.slice p ps.length cap, .slice q ns.length dM] 39) = w0 at *
    clear hw0
    go_loop [3] (fun i => ∃ k : Nat, k ≤ ps.length ∧ i = .int .i64 k ∧ Hid (∀ j, j < k → jm j (gi ps j) = true)) (fun i => ps.length - (intOf i).toNat)
    case atStart => exact ⟨0, Nat.zero_le _, rfl, fun j hj => absurd hj (Nat.not_lt_zero _)⟩
    case round =>
      obtain ⟨k, hk, rfl, hd⟩ := hrel
      by_cases hlt : k < ps.length
      · obtain ⟨b, off, rfl, hc⟩ := K1.out k hlt
        clear K1 Gt GC
        generalize hpk : gi ps k = x at *
        have HX := aa hpk
        clear hpk
        by_cases hg : 0 < k ∧ 0 ≤ x ∧ x < k
        · obtain ⟨g1, g2, g3⟩ := hg
          go_wp2_with fail
          go_round
          case rel => exact ⟨k + 1, by omega, by go_num, fun j hj => if e : j = k then by subst e; rw [HX.out]; unfold jm; rw [if_neg (by omega)]; simp; omega else hd.out j (by omega)⟩
          case measure => simp [intOf]; omega
        · by_cases Gu : k = 0 ∧ x = -1
          · obtain ⟨rfl, rfl⟩ := Gu
            have hc' : w0.cell? ⟨b, off, none⟩ = some (.int .i64 (-1)) := by simpa using hc
            go_wp2_with fail
            go_round
            case rel => exact ⟨1, by omega, by go_num, fun j hj => by obtain rfl : j = 0 := by omega
                                                                      rw [HX.out]; rfl⟩
            case measure => simp [intOf]; omega
          · have mg : jm k x = false := by
              unfold jm; split
              · rename_i e; simp; exact fun e2 => Gu ⟨e, e2⟩
              · simp; intro; omega
            rw [← HX.out] at mg
            have HB := aa (Gc hlt mg)
            clear mg
            have hc' : k = 0 → w0.cell? ⟨b, off, none⟩ = some (.int .i64 x) := fun e => by subst e; simpa using hc
            rcases Nat.eq_zero_or_pos k with rfl | tM
            · have hc2 := hc' rfl
              clear hc' hc
              go_wp2_with fail
              all_goals go_ret
              all_goals exact ⟨aO (by rw [HF.out, if_neg h0, if_neg h1, if_neg (by rw [H2.out]; simp), HB.out]; simp), dX.out⟩
            · clear hc'
              go_wp2_with fail
              all_goals go_ret
              all_goals exact ⟨aO (by rw [HF.out, if_neg h0, if_neg h1, if_neg (by rw [H2.out]; simp), HB.out]; simp), dX.out⟩
      · obtain rfl : k = ps.length := by omega
        have XK := AG hd.out
        have hok := aa XK
        clear hlt hk hd K1 hcap XK
        go_wp2_with fail
        go_loopw [4, 5] (fun i _ wr => ∃ k : Nat, k ≤ ps.length ∧ i = .int .i64 k ∧ Hid (∀ j, j < k → ja ps ns j = 0) ∧ Below w0.heap.size w0 wr) (fun i _ _ => ps.length - (intOf i).toNat)
        case atStart => exact ⟨0, Nat.zero_le _, rfl, fun j hj => absurd hj (Nat.not_lt_zero _), Below.refl _ _⟩
        case round =>
          obtain ⟨k, hk, rfl, hd, hbr⟩ := hrel
          clear nt
          have nt : wr.cell? ⟨w.heap.size, 0, none⟩ = some (.slice p ps.length cap) := (hbr.cell (p := ⟨w.heap.size, 0, none⟩) (by have := HS.out; simp; omega)).trans K2.out
          have uO : wr.cell? ⟨w.heap.size, 1, none⟩ = some (.slice q ns.length dM) := (hbr.cell (p := ⟨w.heap.size, 1, none⟩) (by have := HS.out; simp; omega)).trans K3.out
          by_cases hlt : k < ps.length
          · have hlen : ns.length ≤ ps.length ∧ ps.length ≤ ns.length := by have := H2.out; omega
            obtain ⟨gK, hl2⟩ := hlen
            have hT := GC.out.keep (Kept.below hbr)
            have XL := K5 S wr _ ⟨ps, ns⟩ k hT hp hlt
            have kO := aa XL
            have hne : ja ps ns k = if isIn ps k then (if (gs ns k).size = 0 then 0 else 14) else if aZ (gs ns k).data.toList then (if dI ns k then 7 else 0) else 14 := rfl
            have hki := kY hok.out k
            have hend : ja ps ns k ≠ 0 → az ⟨ps, ns⟩ = ja ps ns k := fun hn0 => by
              rw [HF.out, if_neg h0, if_neg h1, if_neg (by rw [H2.out]; simp), hok.out, if_pos rfl]; exact fZ hlt hd.out hn0
            have HE := aa hne
            have fN := aa hend
            have HKI := aa hki
            clear hT XL hne hend hki
            go_wp2_with fail
            refine kO.out.mono ?_
            rintro e w2 ⟨hb2, v2, rfl, hv2⟩
            obtain ⟨p2, c2, rfl, _, _⟩ := aD.open hv2
            clear hv2
            have XM : w2.cell? ⟨w.heap.size, 0, none⟩ = some (.slice p ps.length cap) := (hb2.cell (p := ⟨w.heap.size, 0, none⟩) (World.block_lt_of_cell? _ _ nt)).trans nt
            have RA : w2.cell? ⟨w.heap.size, 1, none⟩ = some (.slice q ns.length dM) := (hb2.cell (p := ⟨w.heap.size, 1, none⟩) (World.block_lt_of_cell? _ _ uO)).trans uO
            have GD : Below w0.heap.size w0 w2 := hbr.trans (hb2.mono hbr.size)
            clear nt uO kO hb2
            have Gw := hz k
            have hnil := toList_nil (gs ns k)
            have sk := aa hnil
            have Dk := aa GD
            obtain ⟨b, off, rfl, hc0⟩ := Gt.out k (by omega)
            have hc2 : w2.cell? ⟨b, off + k, none⟩ = some (.string (gs ns k)) := (GD.cell (p := ⟨b, off + k, none⟩) (World.block_lt_of_cell? _ _ hc0)).trans hc0
            clear hc0 GD hnil hz
            cases hin : isIn ps k
            · have tM : (eO (aQ ps k)).length = 0 := by
                rcases h : aQ ps k with _ | ⟨a, l⟩
                · rfl
                · have h2 := HKI.out.1 (by rw [h]; simp); rw [hin] at h2; cases h2
              rw [tM]
              have uS := aa hin
              clear tM hin
              have hnm := Rw (gs ns k) Gw w2
              have iF := aa hnm
              clear hnm
              cases hnb : aZ (gs ns k).data.toList
              · have nw := aa hnb
                rw [hnb] at iF
                clear hnb
                go_wp2_with fail
                refine iF.out.mono ?_
                rintro e w3 ⟨rfl, hb3⟩
                go_wp2_with fail
                go_ret
                exact ⟨aO (by rw [fN.out (by rw [HE.out, uS.out, nw.out]; simp), HE.out, uS.out, nw.out]; simp), dX.out.trans ((Dk.out.mono (by have := HS.out; omega)).trans (hb3.mono (by have := HS.out; have := Dk.out.size; omega)))⟩
              · have nw := aa hnb
                rw [hnb] at iF
                clear hnb
                go_wp2_with fail
                refine iF.out.mono ?_
                rintro e w3 ⟨rfl, hb3⟩
                have XN : Below w0.heap.size w0 w3 := Dk.out.trans (hb3.mono Dk.out.size)
                have hcq3 : w3.cell? ⟨w.heap.size, 1, none⟩ = some (.slice (some ⟨b, off, none⟩) ns.length dM) := (hb3.cell (p := ⟨w.heap.size, 1, none⟩) (World.block_lt_of_cell? _ _ RA)).trans RA
                have hc3 : w3.cell? ⟨b, off + k, none⟩ = some (.string (gs ns k)) := (hb3.cell (p := ⟨b, off + k, none⟩) (World.block_lt_of_cell? _ _ hc2)).trans hc2
                have RB := aa XN
                clear XM RA hc2 hb3 XN
                go_wp2_with fail
                go_loopw [5] (fun i wq => ∃ j a : Nat, j ≤ k ∧ i = .int .i64 j ∧ Hid (∀ m, m < j → decide (gs ns m = gs ns k) = false) ∧ wq = w3.drewN a) (fun i _ => k - (intOf i).toNat)
                case atStart => exact ⟨0, 0, Nat.zero_le _, rfl, fun j hj => absurd hj (Nat.not_lt_zero _), rfl⟩
                case round =>
                  obtain ⟨j, a, hj, rfl, hd2, rfl⟩ := hrel
                  by_cases hjk : j < k
                  · obtain ⟨b', off', eb, xx⟩ := Gt.out j (by omega)
                    cases eb
                    have hc4 : w3.cell? ⟨b, off + j, none⟩ = some (.string (gs ns j)) := (RB.out.cell (p := ⟨b, off + j, none⟩) (World.block_lt_of_cell? _ _ xx)).trans xx
                    clear xx
                    have i1 : (0 : Int) ≤ (j : Int) := by omega
                    have i2 : (j : Int) < (ns.length : Int) := by omega
                    have i3 : (0 : Int) ≤ (k : Int) := by omega
                    have i4 : (k : Int) < (ns.length : Int) := by omega
                    have HNEQ := aa (toList_data (gs ns j))
                    go_wp2_with fail
                    go_quiet (fail)
                    go_wp2_with fail
                    · have hs : dI ns k = true := List.any_eq_true.2 ⟨j, List.mem_range.2 hjk, by simpa using Dj ‹_›⟩
                      go_ret
                      exact ⟨aO (by rw [fN.out (by rw [HE.out, uS.out, nw.out, hs]; simp), HE.out, uS.out, nw.out, hs]; simp), dX.out.trans (Below.mono (B := w0.heap.size) (below_drewN (below_drewN RB.out _) _) (by have := HS.out; omega))⟩
                    · have hs := Gr ‹((gs ns j).toList == (gs ns k).toList) = false›
                      go_roundw
                      case rel => exact ⟨j + 1, _, by omega, by go_num, fun m hm => if e : m = j then by subst e; simpa using hs else hd2.out m (by omega), rfl⟩
                      case measure => simp [intOf]; omega
                  · have hs : dI ns k = false := by
                      rw [Bool.eq_false_iff]; intro e
                      obtain ⟨m, hm, h2⟩ := List.any_eq_true.1 e
                      have h3 := hd2.out m (by have := List.mem_range.1 hm; omega)
                      rw [h3] at h2; cases h2
                    have BO := aa hs
                    clear hs
                    go_wp2_with fail
                    go_roundw
                    case rel => exact ⟨k + 1, by omega, by go_num, fun m hm => if e : m = k then by subst e; rw [HE.out, uS.out, nw.out, BO.out]; simp else hd.out m (by omega), below_drewN RB.out _⟩
                    case measure => simp [intOf]; omega
            · have tM : 0 < (eO (aQ ps k)).length := by
                have h2 := HKI.out.2 hin
                unfold eO; rw [List.length_map]; exact List.length_pos_iff.2 h2
              generalize (eO (aQ ps k)).length = m at *
              have uS := aa hin
              clear hin
              by_cases hg0 : (gs ns k).size = 0
              · have hg1 : (gs ns k).toList = [] := sk.out.2 hg0
                have uP := aa hg0
                clear hg0
                go_wp2_with fail
                go_roundw
                case rel => exact ⟨k + 1, by omega, by go_num, fun j hj => if e : j = k then by subst e; rw [HE.out, uS.out, uP.out]; simp else hd.out j (by omega), Dk.out⟩
                case measure => simp [intOf]; omega
              · have hg1 : ((gs ns k).toList == []) = false := by
                  rw [Bool.eq_false_iff]; intro e; exact hg0 (sk.out.1 (by simpa using e))
                have hg2 : ((gs ns k).toList != []) = true := by
                  rw [bne_iff_ne]; intro e; exact hg0 (sk.out.1 (by simpa using e))
                have uP := aa hg0
                clear hg0
                go_wp2_with fail
                go_ret
                exact ⟨aO (by rw [fN.out (by rw [HE.out, uS.out, if_pos rfl, if_neg uP.out]; simp), HE.out, uS.out, if_pos rfl, if_neg uP.out]), dX.out.trans (Dk.out.mono (by have := HS.out; omega))⟩
          · have hk2 : k = ps.length := by omega
            clear hlt
            go_wp2_with fail
            go_ret
            exact ⟨aO (by rw [HF.out, if_neg h0, if_neg h1, if_neg (by rw [H2.out]; simp), hok.out, if_pos rfl, eN fun j hj => hd.out j (by omega)]), dX.out.trans (hbr.mono (by have := HS.out; omega))⟩
  · have Ec : ((ns.length : Int) != ps.length) = true := by simp; omega
    go_enter Tryz.func40, Tryz.ntmps40
    go_wp2_with fail
    go_ret
    exact ⟨aO (by rw [HF.out, if_neg h0, if_neg h1, if_pos h2]), dX.out⟩
end
section
open Go.RowKit Go.Shelf Go.Deep
def Marks (n₀ : Nat) (w : World) : List Deferred → Prop
 | [] => True
 | d :: ds => (∃ r, d = { target := .collected r, args := #[] } ∧ n₀ ≤ r ∧ w.heap[r]? = some (.deferred (some [])) ∧ (∀ d' ∈ ds, d'.target ≠ .collected r)) ∧ Marks n₀ w ds
theorem Marks.keep {n₀ : Nat} {w w' : World} (h : ∀ r, w.heap[r]? = some (.deferred (some [])) → n₀ ≤ r → w'.heap[r]? = w.heap[r]?) : ∀ {ds : List Deferred}, Marks n₀ w ds → Marks n₀ w' ds
 | [], _ => trivial
 | _ :: _, ⟨⟨r, e, hr, hk, hne⟩, ht⟩ => ⟨⟨r, e, hr, (h r hk hr).trans hk, hne⟩, ht.keep h⟩
theorem Marks.lt {n₀ : Nat} {w : World} : ∀ {ds : List Deferred}, Marks n₀ w ds → ∀ d ∈ ds, ∃ r, d.target = .collected r ∧ r < w.heap.size
 | _ :: _, ⟨⟨r, e, _, hk, _⟩, ht⟩, d, hd => by
  rcases List.mem_cons.1 hd with rfl | hd
  ·refine ⟨r, by rw [e], ?_⟩
   rcases Nat.lt_or_ge r w.heap.size with h | h
   ·exact h
   ·rw [Array.getElem?_eq_none h] at hk; cases hk
  ·exact ht.lt d hd
theorem Marks.keep' {n₀ r : Nat} {w w' : World} (h : ∀ k, k ≠ r → w'.heap[k]? = w.heap[k]?) : ∀ {ds : List Deferred}, (∀ d' ∈ ds, d'.target ≠ .collected r) → Marks n₀ w ds → Marks n₀ w' ds
 | [], _, _ => trivial
 | _ :: _, hne, ⟨⟨s, e, hs, hk, Eh⟩, ht⟩ => ⟨⟨s, e, hs, (h s (by rintro rfl; exact hne _ List.mem_cons_self (by rw [e]))).trans hk, Eh⟩, Marks.keep' h (fun d hd => hne d (List.mem_cons_of_mem _ hd)) ht⟩
theorem yc {fn : Func} {tmps : Array Value} {R : Ending → World → Prop} {n n₀ : Nat} {v : Value} (hres : ∀ w, (results fn tmps).run Tryz.prog w = .ok v w) :
  ∀ {ds : List Deferred} {w : World}, Marks n₀ w ds → (∀ w', Below n₀ w w' → w'.heap.size = w.heap.size → (∀ b : Nat, (∃ c t z, w.heap[b]? = some (Obj.cells c t z)) → w'.heap[b]? = w.heap[b]?) → R (.returned v) w') →
  LeavesInM Fence.wide n Tryz.prog fn tmps R ds .returning w
 | [], w, _, hR => ⟨v, hres w, hR w (Below.refl _ _) rfl fun _ _ => rfl⟩
 | d :: ds, w, ⟨⟨r, e, hr, hk, hne⟩, ht⟩, hR => by
  refine ⟨by simp, .inl ⟨r, _, by rw [e], run_takeDeferred hk, ?_⟩⟩
  have MB : ∀ k, k ≠ r → (w.putObj r (.deferred none)).heap[k]? = w.heap[k]? := fun k hk2 => World.putObj_heap_other hk2
  refine yc hres (Marks.keep' MB hne ht) fun w' hb hs hc => hR w' ?_ (hs.trans (by simp)) fun b ⟨c, t, z, hbk⟩ => ?_
  ·exact (show Below n₀ w (w.putObj r (.deferred none)) from ⟨rfl, rfl, rfl, by simp, fun k hk2 => MB k (by omega)⟩).trans hb
  ·have hbr : b ≠ r := by rintro rfl; rw [hk] at hbk; cases hbk
   rw [hc b ⟨c, t, z, by rw [MB b hbr]; exact hbk⟩, MB b hbr]
end
section
open Go.RowKit Go.Deep
end
end Go.Proofs.YteegefnjnikngaaGreat
