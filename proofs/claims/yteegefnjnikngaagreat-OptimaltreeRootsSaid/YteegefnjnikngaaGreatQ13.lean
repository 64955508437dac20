/- phylotree.nodes again: the row of nodes lies apart from the forest. Maps whose keys are .. -/
import Derived.Test.YteegefnjnikngaaGreatQ1
import Derived.Test.YteegefnjnikngaaGreatQ11
import Derived.Test.YteegefnjnikngaaGreatQ10
import Derived.Test.YteegefnjnikngaaGreatQ12
import Derived.Test.YteegefnjnikngaaGreatQ2
import Derived.Sort.OwnSorted
import Derived.Test.YteegefnjnikngaaGreatQ9
import Derived.Test.YteegefnjnikngaaGreatQ5
import Derived.Test.YteegefnjnikngaaGreatQ8
set_option maxRecDepth 100000
namespace Go.Proofs.YteegefnjnikngaaGreat
section
open Go.RowKit Go.Deep
def MR (w : World) (t : ax) (e : Ending) (w' : World) : Prop :=
 Up w w' ∧ ∃ g A kv, w.heap.size ≤ g ∧ e = .returned (.slice (some ⟨g, 0, none⟩) t.ps.length t.ps.length) ∧ aS (g + 1) t.ps.length A kv (dy t) w' ∧ w'.rowIs g 124 t.ps.length (aL A)
set_option maxHeartbeats 2000000 in
theorem Hl (S : Nat → Prop) (w : World) (v : Value) (t : ax) (hT : aC S w v t) (hp : t.ps.length ≤ 1000) (hn : t.ns.length = t.ps.length) (hok : iJ t.ps = true) (hz : ∀ k, (gs t.ns k).size ≤ 70000) :
  Calls Tryz.prog 100 #[v] w (MR w t) := by
 obtain ⟨P, N, rfl, hP, hN⟩ := hT
 obtain ⟨pP, ir, rfl, hcapP, _⟩ := aD.open hP
 have hP : aB S w (.slice pP t.ps.length ir) t.ps := hP
 obtain ⟨pN, iu, rfl, hcapN, _⟩ := aD.open hN
 have hN : av S w (.slice pN t.ns.length iu) t.ns := hN
 have hmk := fun W => run_make_row' (P := Tryz.prog) 125 124 (.pointer none) 8 Tryz.underlying125 Tryz.nX rfl .i64 .i64 t.ps.length (by omega) (by omega) W
 have hu := Up.alloc w (.cells #[.slice pP t.ps.length ir, .slice pN t.ns.length iu] 39)
 have hb0 := ew w (.slice pP t.ps.length ir) (.slice pN t.ns.length iu) 39
 have hb1 := ey w (.slice pP t.ps.length ir) (.slice pN t.ns.length iu) 39
 have aK := Up.alloc (w.alloc (.cells #[.slice pP t.ps.length ir, .slice pN t.ns.length iu] 39)) (.cells (madeCells #[.pointer none] t.ps.length) 124)
 have HW : Hid (zZ ((w.alloc (.cells #[.slice pP t.ps.length ir, .slice pN t.ns.length iu] 39)).alloc (.cells (madeCells #[.pointer none] t.ps.length) 124)) ((w.alloc (.cells #[.slice pP t.ps.length ir, .slice pN t.ns.length iu] 39)).alloc (.cells (madeCells #[.pointer none] t.ps.length) 124)) (w.heap.size + 1) t.ps.length 0 t) := by
  refine ⟨Below.refl _ _, fun _ => 0, fun _ => .slice none 0 0, aS.empty _ _ _ _ _, ?_⟩
  have h := World.rowIs_made (w.alloc (.cells #[.slice pP t.ps.length ir, .slice pN t.ns.length iu] 39)) (.pointer none) t.ps.length 124
  simp only [World.size_alloc] at h
  exact h
 have jC := aa (hu.trans aK)
 have hsz : w.heap.size + 1 + 1 = ((w.alloc (.cells #[.slice pP t.ps.length ir, .slice pN t.ns.length iu] 39)).alloc (.cells (madeCells #[.pointer none] t.ps.length) 124)).heap.size := by simp
 have bQ := aa hsz
 have jo := aa (aK.cell hb0)
 have iq := aa (aK.cell hb1)
 have HP := aa hP
 have HN := aa hN
 have Yk := aa hz
 have xC := aa hok
 have eT := aa hn
 have hnl : (t.ps.length : Int) ≤ (t.ns.length : Int) := by omega
 clear hsz hu hb0 hb1 aK hP hN hz hok hn
 go_enter Tryz.func100, Tryz.ntmps100
 go_wp2_with fail
 generalize (w.alloc (.cells #[.slice pP t.ps.length ir, .slice pN t.ns.length iu] 39)).alloc (.cells (madeCells #[.pointer none] t.ps.length) 124) = w1 at *
 go_loopw [13] (fun i wr => ∃ k : Nat, k ≤ t.ps.length ∧ i = .int .i64 k ∧ Hid (zZ w1 wr (w.heap.size + 1) t.ps.length k t)) (fun i _ => t.ps.length - (intOf i).toNat)
 case atStart => exact ⟨0, Nat.zero_le _, rfl, HW⟩
 case round =>
  obtain ⟨k, hk, rfl, hO⟩ := hrel
  obtain ⟨wo, rfl⟩ : ∃ wo : World, wo = wr := ⟨_, rfl⟩
  by_cases hlt : k < t.ps.length
  ·obtain ⟨eC, A, kv, hF, hrow⟩ := hO.out
   have hc0 : wo.cell? ⟨w.heap.size, 0, none⟩ = some (.slice pP t.ps.length ir) := by rw [eC.cell (p := ⟨w.heap.size, 0, none⟩) (Nat.lt_succ_self _)]; exact jo.out
   have hc1 : wo.cell? ⟨w.heap.size, 1, none⟩ = some (.slice pN t.ns.length iu) := by rw [eC.cell (p := ⟨w.heap.size, 1, none⟩) (Nat.lt_succ_self _)]; exact iq.out
   have GY : Up w wo := Below.trans jC.out (eC.mono (Nat.le_succ _))
   obtain ⟨bP, oP, rfl, kQ⟩ := eE (aB.keep HP.out (GY.kept S)) hlt
   obtain ⟨bN, oN, rfl, qY⟩ := cu (av.keep HN.out (GY.kept S)) (k := k) (by rw [eT.out]; exact hlt)
   have HX := aa hO.out.new
   have Yl : (wo.alloc (.cells #[.string (gs t.ns k), .slice none 0 0, .int .i64 k] 127)).cell? ⟨w.heap.size + 1, k, none⟩ = some (.pointer none) := by
    have h := (hrow.alloc (.cells #[.string (gs t.ns k), .slice none 0 0, .int .i64 k] 127)).cell hlt
    rw [h, if_neg (Nat.lt_irrefl k)]
   have hfo : (wo.alloc (.cells #[.string (gs t.ns k), .slice none 0 0, .int .i64 k] 127)).frozen? ⟨w.heap.size + 1, k, none⟩ = false := (hrow.alloc _).frozen k
   clear hF hrow eC GY hO
   have h0 : gi t.ps k < k ∧ (0 < k → 0 ≤ gi t.ps k) ∧ (k = 0 → gi t.ps k = -1) := BH xC.out hlt
   by_cases ni : 0 ≤ gi t.ps k
   ·obtain ⟨p, GZ⟩ := Int.eq_ofNat_of_zero_le ni
    have hpk : p < k := by omega
    rw [GZ] at kQ
    have d1 : decide ((0 : Int) ≤ (p : Int)) = true := by simp
    have xy := aa GZ
    clear h0 ni GZ
    go_wp2_with fail
    generalize (wo.alloc (.cells #[.string (gs t.ns k), .slice none 0 0, .int .i64 k] 127)).setCell ⟨w.heap.size + 1, k, none⟩ (.pointer (some ⟨wo.heap.size, 0, none⟩)) = w2 at *
    obtain ⟨A, kv, hAk, hX⟩ := HX.out
    have hr1 : w2.cell? ⟨w.heap.size + 1, p, none⟩ = some (.pointer (some ⟨A p, 0, none⟩)) := by
     have h := hX.row.cell (i := p) (by omega)
     rw [if_pos (by omega)] at h; exact h
    have hr2 : w2.cell? ⟨w.heap.size + 1, k, none⟩ = some (.pointer (some ⟨A k, 0, none⟩)) := by
     have h := hX.row.cell (i := k) hlt
     rw [if_pos (by omega)] at h; exact h
    have Ym : Hid (aL A k = .pointer (some ⟨wo.heap.size, 0, none⟩)) := by unfold Hid aL; rw [hAk]
    rw [hAk] at hr2
    have hkc := hX.fr.je (i := p) (by omega)
    have hfz := hX.fr.thaw (i := p) (by omega) 1
    have AR : Hid (aA (w.heap.size + 1 + 1) 124 w2 (kv p) ((cG t.ps p k).map (aL A))) := by have h := hX.fr.own p (by omega); rw [o5] at h; exact h
    have K9 := aa hX
    have G0 : Hid (A p ≠ w.heap.size + 1 ∧ (kv p).ownBlock ≠ some (w.heap.size + 1) ∧ (kv p).ownBlock ≠ some (A p) ∧ w.heap.size + 1 < w2.heap.size ∧ A p < w2.heap.size) := ⟨(hX.fr.far (by omega)).1, (hX.fr.far (by omega)).2, hX.fr.apart p p (by omega) (by omega), hX.row.lt, hX.fr.lt (by omega)⟩
    have i0 : (0 : Int) ≤ (p : Int) := by omega
    have i1 : (p : Int) < (t.ps.length : Int) := by omega
    have i2 : (0 : Int) ≤ (k : Int) := by omega
    have i3 : (k : Int) < (t.ps.length : Int) := by omega
    have iT : Hid (((cG t.ps p k).map (aL A)).length ≤ 1000000) := by unfold Hid; rw [List.length_map]; have := qu t.ps p k; omega
    have BX : Hid (∀ g cap w', aA (w.heap.size + 1 + 1) 124 w' (.slice (some ⟨g, 0, none⟩) (((cG t.ps p k).map (aL A)).length + 1) cap) ((cG t.ps p k).map (aL A) ++ [.pointer (some ⟨wo.heap.size, 0, none⟩)]) → w2.grownBy w' (kv p).ownBlock → ((kv p).ownBlock = some g ∨ w2.heap.size ≤ g) → zZ w1 (w'.setCell ⟨A p, 1, none⟩ (.slice (some ⟨g, 0, none⟩) (((cG t.ps p k).map (aL A)).length + 1) cap)) (w.heap.size + 1) t.ps.length (k + 1) t) := fun g cap w' h1 h2 h3 => hX.push hpk xy.out (by rw [Ym.out]; exact h1) h2 (fun b hb => by cases hb; exact h3)
    clear hAk hX HX Yl hfo kQ qY hc0 hc1
    generalize aL A = na at *
    generalize hap : A p = ap at *
    generalize wo.heap.size = ak at *
    generalize kv p = ov at *
    generalize List.map na (cG t.ps p k) = vs at *
    have R2 : Hid (aA (w.heap.size + 1 + 1) 124 (w2.alloc (.cells #[.pointer (some ⟨ak, 0, none⟩)] 124)).drew ov vs) := AR.out.alloc _
    have nu : Hid ((w2.alloc (.cells #[.pointer (some ⟨ak, 0, none⟩)] 124)).drew.cell? ⟨w2.heap.size, 0, none⟩ = some (.pointer (some ⟨ak, 0, none⟩))) := aT _ _ _ 0
    have jq : Hid (w.heap.size + 1 + 1 ≤ (w2.alloc (.cells #[.pointer (some ⟨ak, 0, none⟩)] 124)).drew.heap.size) := by
     have := G0.out.2.2.2.1
     show _ ≤ (w2.alloc _).heap.size
     rw [World.size_alloc]; omega
    have G1 : Hid (∀ (w' : World), (w2.alloc (.cells #[.pointer (some ⟨ak, 0, none⟩)] 124)).drew.grownBy w' ov.ownBlock → w'.cell? ⟨w.heap.size + 1, p, none⟩ = some (.pointer (some ⟨ap, 0, none⟩)) ∧ w'.cell? ⟨w.heap.size + 1, k, none⟩ = some (.pointer (some ⟨ak, 0, none⟩)) ∧ w'.cell? ⟨ap, 1, none⟩ = some ov ∧ w'.frozen? ⟨ap, 1, none⟩ = false) := fun w' hg => by
     obtain ⟨q1, q2, q3, q4, q5⟩ := G0.out
     have hl : ∀ b, b < w2.heap.size → b < (w2.alloc (.cells #[.pointer (some ⟨ak, 0, none⟩)] 124)).drew.heap.size := fun b hb => by show b < (w2.alloc _).heap.size; rw [World.size_alloc]; omega
     have hu := Up.alloc w2 (.cells #[.pointer (some ⟨ak, 0, none⟩)] 124)
     refine ⟨?_, ?_, ?_, ?_⟩
     ·rw [hg.cell_far _ (hl _ q4) (Ne.symm q2)]; exact hu.cell hr1
     ·rw [hg.cell_far _ (hl _ q4) (Ne.symm q2)]; exact hu.cell hr2
     ·rw [hg.cell_far _ (hl _ q5) (Ne.symm q3)]; exact hu.cell hkc
     ·rw [hg.frozen_far _ (hl _ q5) (Ne.symm q3)]; exact (Below.frozen hu (p := ⟨ap, 1, none⟩) q5).trans hfz
    have hr1a := (Up.alloc w2 (.cells #[.pointer (some ⟨ak, 0, none⟩)] 124)).cell hr1
    have hr2a := (Up.alloc w2 (.cells #[.pointer (some ⟨ak, 0, none⟩)] 124)).cell hr2
    have hkca := (Up.alloc w2 (.cells #[.pointer (some ⟨ak, 0, none⟩)] 124)).cell hkc
    clear K9
    refine cU (by kernel_rfl) 20 (fun w' => w'.cell? ⟨w.heap.size + 1, p, none⟩ = some (.pointer (some ⟨ap, 0, none⟩)) ∧ w'.cell? ⟨w.heap.size + 1, k, none⟩ = some (.pointer (some ⟨ak, 0, none⟩)) ∧ w'.cell? ⟨ap, 1, none⟩ = some ov) ⟨hr1, hr2, hkc⟩ (fun hS => ?_)
    simp only [List.size_toArray, List.length_cons, List.length_nil, Nat.reduceAdd, Array.replicate_succ, Array.replicate_zero, List.push_toArray, List.nil_append, List.cons_append]
    refine af.take (i := 0) (v := ?OX) rfl (by kernel_rfl) (fun _ _ _ h => h) (by rfl) (fun w hSw => ?yu) hS ?OY
    case yu =>
     (try dsimp only at hSw)
     go_simp
     try with_reducible rfl
    try simp only [Act.put, aq, ah, au]
    refine af.take (i := 1) (v := ?OZ) rfl (by kernel_rfl) (fun _ _ _ h => h) (by rfl) (fun w hSw => ?yw) hS ?O0
    case yw =>
     (try dsimp only at hSw)
     go_simp
     try with_reducible rfl
    try simp only [Act.put, aq, ah, au]
    refine af.take (i := 2) (v := ?O1) rfl (by kernel_rfl) (fun _ _ _ h => h) (by rfl) (fun w hSw => ?yx) hS ?O2
    case yx =>
     (try dsimp only at hSw)
     go_simp
     try with_reducible rfl
    try simp only [Act.put, aq, ah, au]
    refine af.take (i := 3) (v := ?Yn) rfl (by kernel_rfl) (fun _ _ _ h => h) (by rfl) (fun w hSw => ?G2) hS ?Yo
    case G2 =>
     (try dsimp only at hSw)
     go_simp
     try with_reducible rfl
    try simp only [Act.put, aq, ah, au]
    refine af.take (i := 4) (v := ?Yp) rfl (by kernel_rfl) (fun _ _ _ h => h) (by rfl) (fun w hSw => ?G3) hS ?Yq
    case G3 =>
     (try dsimp only at hSw)
     go_simp
     try with_reducible rfl
    try simp only [Act.put, aq, ah, au]
    refine af.take (i := 5) (v := ?Yr) rfl (by kernel_rfl) (fun _ _ _ h => h) (by rfl) (fun w hSw => ?G4) hS ?Yt
    case G4 =>
     (try dsimp only at hSw)
     go_simp
     try with_reducible rfl
    try simp only [Act.put, aq, ah, au]
    refine af.take (i := 6) (v := ?Yu) rfl (by kernel_rfl) (fun _ _ _ h => h) (by rfl) (fun w hSw => ?G5) hS ?Yv
    case G5 =>
     (try dsimp only at hSw)
     go_simp
     try with_reducible rfl
    try simp only [Act.put, aq, ah, au]
    refine af.take (i := 7) (v := ?Ut) rfl (by kernel_rfl) (fun _ _ _ h => h) (by rfl) (fun w hSw => ?BZ) hS ?Uu
    case BZ =>
     (try dsimp only at hSw)
     go_simp
     try with_reducible rfl
    try simp only [Act.put, aq, ah, au]
    refine af.take (i := 8) (v := ?Uv) rfl (by kernel_rfl) (fun _ _ _ h => h) (by rfl) (fun w hSw => ?B1) hS ?Uw
    case B1 =>
     (try dsimp only at hSw)
     go_simp
     try with_reducible rfl
    try simp only [Act.put, aq, ah, au]
    refine af.take (i := 9) (v := ?Ux) rfl (by kernel_rfl) (fun _ _ _ h => h) (by rfl) (fun w hSw => ?B2) hS ?Uy
    case B2 =>
     (try dsimp only at hSw)
     go_simp
     try with_reducible rfl
    try simp only [Act.put, aq, ah, au]
    refine af.take (i := 10) (v := ?R3) rfl (by kernel_rfl) (fun _ _ _ h => h) (by rfl) (fun w hSw => ?AU) hS ?R4
    case AU =>
     (try dsimp only at hSw)
     go_simp
     try with_reducible rfl
    try simp only [Act.put, aq, ah, au]
    refine af.take (i := 11) (v := ?Yw) rfl (by kernel_rfl) (fun _ _ _ h => h) (by rfl) (fun w hSw => ?G6) hS ?Yx
    case G6 =>
     (try dsimp only at hSw)
     go_simp
     try with_reducible rfl
    try simp only [Act.put, aq, ah, au]
    refine af.take (i := 12) (v := ?Yy) rfl (by kernel_rfl) (fun _ _ _ h => h) (by rfl) (fun w hSw => ?G7) hS ?Yz
    case G7 =>
     (try dsimp only at hSw)
     go_simp
     try with_reducible rfl
    try simp only [Act.put, aq, ah, au]
    refine af.take (i := 13) (v := ?YA) rfl (by kernel_rfl) (fun _ _ _ h => h) (by rfl) (fun w hSw => ?G8) hS ?YB
    case G8 =>
     (try dsimp only at hSw)
     go_simp
     try with_reducible rfl
    try simp only [Act.put, aq, ah, au]
    refine af.take (i := 14) (v := ?YC) rfl (by kernel_rfl) (fun _ _ _ h => h) (by rfl) (fun w hSw => ?G9) hS ?YD
    case G9 =>
     (try dsimp only at hSw)
     go_simp
     try with_reducible rfl
    try simp only [Act.put, aq, ah, au]
    refine af.step (i := 15) rfl (by kernel_rfl) (fun K' hK => ?_)
    go_simp
    refine hK.out _ _ (fun _ => ⟨(Up.alloc _ _).cell hr1, (Up.alloc _ _).cell hr2, (Up.alloc _ _).cell hkc⟩) (fun hS => ?_)
    try simp only [aq, ah, au]
    refine af.step (i := 16) rfl (by kernel_rfl) (fun K' hK => ?_)
    refine gy (by rfl) _ _ _ (by rfl) (w.heap.size + 1 + 1) 124 _ 8 Tryz.underlying125 Tryz.nX (by rfl) (by decide) (by rfl) R2.out (.pointer (some ⟨ak, 0, none⟩)) w2.heap.size (by rfl) nu.out (by rfl) iT.out jq.out ?_
    intro g cap w4 tS hg4 yy He
    obtain ⟨R5, R6, R7, hfz4⟩ := G1.out w4 hg4
    have MO := aa tS
    have O3 := aa (mP hg4)
    have R8 := aa yy
    clear tS hg4 yy He
    refine hK.out _ _ (fun _ => ⟨R5, R6, R7⟩) (fun hS => ?_)
    replace hS := hS ⟨19, by decide, rfl⟩
    try simp only [Act.put, aq, ah, au]
    refine af.take (i := 17) (v := ?gv17) rfl (by kernel_rfl) (fun _ _ _ h => h) (by rfl) (fun w hSw => ?R9) hS ?gr17
    case R9 =>
     (try dsimp only at hSw)
     go_simp
     try with_reducible rfl
    try simp only [Act.put, aq, ah, au]
    refine af.take (i := 18) (v := ?gv18) rfl (by kernel_rfl) (fun _ _ _ h => h) (by rfl) (fun w hSw => ?Sa) hS ?gr18
    case Sa =>
     (try dsimp only at hSw)
     go_simp
     try with_reducible rfl
    try simp only [Act.put, aq, ah, au]
    refine af.step (i := 19) rfl (by kernel_rfl) (fun K' hK => ?_)
    go_simp
    refine hK.out _ _ (aJ (by kernel_rfl)) (fun hS => ?_)
    refine af.done (by kernel_rfl) ?_
    go_wp2_with fail
    go_roundw
    case rel =>
     refine ⟨k + 1, by omega, by go_num, BX.out g cap w4 MO.out O3.out ?_⟩
     rcases R8.out with h | h
     ·exact .inl h
     ·refine .inr ?_
      rw [h]; exact Nat.le_trans (Nat.le_succ _) (Nat.le_of_eq (World.size_alloc _ _).symm)
    case measure => simp [intOf]; omega
   ·have xy : Hid (gi t.ps k < 0) := by unfold Hid; omega
    have d1 : decide ((0 : Int) ≤ gi t.ps k) = false := by simpa using ni
    clear h0 ni
    go_wp2_with fail
    go_roundw
    case rel =>
     obtain ⟨A', kv', _, hX⟩ := HX.out
     exact ⟨k + 1, by omega, by go_num, hX.root xy.out⟩
    case measure => simp [intOf]; omega
  ·obtain rfl : k = t.ps.length := by omega
   go_wp2_with fail
   go_ret
   obtain ⟨eC, A, kv, hF, hrow⟩ := hO.out
   exact ⟨Below.trans jC.out (eC.mono (Nat.le_succ _)), _, A, kv, Nat.le_succ _, rfl, hF, hrow.congr fun i hi => by rw [if_pos hi]⟩
end
section
open Go.RowKit Go.Deep
section
variable {P : Program} {w : World}
end
end
section
open Go.RowKit Go.Shelf Go.Deep
end
section
open Go.RowKit Go.Deep
end
section
open Go.RowKit Go.Deep Go.Sort Go.Shelf Go.Lib
section
variable {α : Type} [Inhabited α] {enc : α → Value}
theorem Sg (cur : Array Value) (ts : List α) (h : ts.length ≤ cur.size) : (putCells enc 0 ts.toArray cur).toList.take ts.length = ts.map enc := by
 apply List.ext_getElem?
 intro j
 by_cases hj : j < ts.length
 ·rw [List.getElem?_take_of_lt hj, Array.getElem?_toList]
  simp [putCells, hj, show j < cur.size by omega]
 ·rw [List.getElem?_take_eq_none (by omega), List.getElem?_eq_none (by simp; omega)]
theorem Dr (w : World) (g n : Nat) (d : Array α) (os : Array Obj) : w.heap.size ≤ (sortWorld enc w g 0 n d os).heap.size := by
 simp [sortWorld, grow, putRow, mapBlock, Sort.ahead]
theorem eH {w : World} {g n : Nat} {d : Array α} {os : Array Obj} {b : Nat} (h : b ≠ g) (hl : b < w.heap.size) : (sortWorld enc w g 0 n d os).heap[b]? = w.heap[b]? := by
 unfold sortWorld
 rw [heap_grow_old _ _ (by simpa [putRow, mapBlock, Sort.ahead] using hl)]
 simp [putRow, mapBlock, Sort.ahead, Array.getElem?_modify, Ne.symm h]
theorem FT {w : World} {g n : Nat} {d : Array α} {os : Array Obj} {cur : Array Value} {e : TypeId} {fr : Nat × Nat} (hb : w.heap[g]? = some (.cells cur e fr)) :
  (sortWorld enc w g 0 n d os).heap[g]? = some (.cells (putCells enc 0 d cur) e fr) := by
 have hg : g < w.heap.size := (Array.getElem?_eq_some_iff.1 hb).1
 unfold sortWorld
 rw [heap_grow_old _ _ (by simpa [putRow, mapBlock, Sort.ahead] using hg)]
 simp [putRow, mapBlock, Sort.ahead, Array.getElem?_modify, hb, onCells]
end
theorem aA.sorted {α : Type} [Inhabited α] {enc : α → Value} {base g cap n : Nat} {e : TypeId} {w : World} {os : Array Obj} {vs : List Value} {ts : List α} (h : aA base e w (.slice (some ⟨g, 0, none⟩) vs.length cap) vs) (hl : ts.length = vs.length) :
  aA base e (sortWorld enc w g 0 n ts.toArray os) (.slice (some ⟨g, 0, none⟩) vs.length cap) (ts.map enc) := by
 obtain ⟨_, ⟨h1, _⟩ | ⟨g', cap', cur, hs, hg, hc, hn, hcm, hcs, ht⟩⟩ := h
 ·cases h1
 ·injection hs with hs1 hs2 hs3
  injection hs1 with hs1
  injection hs1 with hs1
  subst hs1; subst hs3
  refine ⟨by simp, .inr ⟨g, cap, putCells enc 0 ts.toArray cur, by simp [hl], hg, FT hc, by simp [hl]; exact hn, hcm, by simpa [putCells] using hcs, ?_⟩⟩
  rw [List.length_map, Nat.mul_one]
  exact Sg cur ts (by omega)
theorem Sh (f : Nat → ByteArray) {L : List Nat} : SWO (ltOf fun (x y : {k // k ∈ L}) => cz (f x.1) (f y.1)) where
 irrefl x := by simp [ltOf, Ev]
 trans x y z h1 h2 := by
  simp only [ltOf, decide_eq_true_eq] at *
  exact rz h1 h2
 ntrans x y z h1 h2 := by
  simp only [ltOf, decide_eq_false_iff_not] at *
  intro h3
  by_cases e : cz (f x.1) (f y.1) = 0
  ·rw [gV e] at h3; exact h2 h3
  ·have h4 : cz (f y.1) (f x.1) < 0 := by have := gU (f x.1) (f y.1); omega
   exact h2 (rz h4 h3)
def YI (n base : Nat) (A : Nat → Nat) (kv : Nat → Value) (F : aP) (w : World) (i : Nat) (l : List Nat) (e : Ending) (w' : World) : Prop :=
 e = .returned (.tuple #[]) ∧ aS base n A kv { F with kids := upd F.kids i l } w' ∧ gL n A kv w w'
theorem aS.plain {base n : Nat} {A : Nat → Nat} {kv : Nat → Value} {F : aP} {w : World} (h : aS base n A kv F w) {i : Nat} (hi : i < n) : Plain w (A i) := ⟨_, _, h.node i hi, by simp⟩
theorem Plain.of_block {w w' : World} {b : Nat} (h : Plain w b) (e : w'.heap[b]? = w.heap[b]?) : Plain w' b := by
 obtain ⟨c, t, h1, h2⟩ := h
 exact ⟨c, t, by rw [e]; exact h1, h2⟩
theorem jB.of_block {w w' : World} {b : Nat} {l : List (Option Nat × Value)} (h : jB w b l) (e : w'.heap[b]? = w.heap[b]?) : jB w' b l := by
 obtain ⟨es, c, h1, h2⟩ := h
 exact ⟨es, c, by rw [e]; exact h1, h2⟩
theorem jB.lt {w : World} {b : Nat} {l : List (Option Nat × Value)} (h : jB w b l) : b < w.heap.size := by
 obtain ⟨es, c, h1, h2⟩ := h
 exact (Array.getElem?_eq_some_iff.1 h1).1
set_option maxHeartbeats 800000 in
theorem Kz {base n : Nat} {A : Nat → Nat} {kv : Nat → Value} {F : aP} {w : World} (hF : aS base n A kv F w) {i g cap : Nat} (hi : i < n) (hv : kv i = .slice (some ⟨g, 0, none⟩) (F.kids i).length cap) (h0 : F.kids i ≠ []) (hlen : (F.kids i).length ≤ 1000000)
  (f : Nat → ByteArray) (hs : Sep f (F.kids i)) {bx m0 : Nat} {l : List (Option Nat × Value)} (kj : w.cell? ⟨bx, 0, none⟩ = some (.map (some m0))) (hm : jB w m0 l) (hgb : g ≠ bx) (hgm : g ≠ m0)
  (hl : ∀ k ∈ F.kids i, l.lookup (some (A k)) = some (.string (f k))) (hok : ∀ z ∈ l, ∃ k, k < n ∧ z.1 = some (A k)) :
  Calls Tryz.prog 221 #[kv i, .func (.func 222) #[] #[.pointer (some ⟨bx, 0, none⟩)]] w (YI n base A kv F w i (cH f (F.kids i))) := by
 obtain ⟨k0, tM⟩ : ∃ k, k ∈ F.kids i := List.exists_mem_of_ne_nil _ h0
 letI : Inhabited {k // k ∈ F.kids i} := ⟨⟨k0, tM⟩⟩
 have hown := hF.own i hi
 rw [hv] at hown
 have hgo : (kv i).ownBlock = some g := by rw [hv]; rfl
 have tN := (hF.ep hi hgo).2
 have Pj : ∀ j, j < n → A j ≠ g := fun j hj e => hF.apart i j hi hj (by rw [hgo, e])
 have eg : ∀ args w, (callFunc 222 args).run Tryz.prog w = .ok (.enter 222 args) w := enters_of Tryz.func222 (by kernel_rfl) rfl
 have hsize : ((F.kids i).attach.toArray).size = (F.kids i).length := by simp
 have MS : ((F.kids i).map (aL A)).length = (F.kids i).length := by simp
 have hH : Holds (fun (x : {k // k ∈ F.kids i}) => aL A x.1) w g 0 (F.kids i).attach.toArray := by
  intro j hj
  rw [hsize] at hj
  obtain ⟨p, c, e, _, H⟩ := hown.AJ.open
  injection e with e1
  subst e1
  obtain ⟨b, off, e, hc⟩ := H j (by rw [MS]; exact hj)
  injection e with e
  injection e with e1 e2
  subst e1; subst e2
  refine ⟨?_, ?_⟩
  ·rw [hc, getElem!_pos _ _ (by simpa using hj)]; simp [hj]
  ·obtain ⟨_, ⟨h1, _⟩ | ⟨g', cap', cur, hs', _, hc', _⟩⟩ := hown
   ·cases h1
   ·injection hs' with hs1
    injection hs1 with hs1
    injection hs1 with hs1
    subst hs1
    simp [World.frozen?, hc']
 have hcmp : CmpLays1 Tryz.prog 222 #[.pointer (some ⟨bx, 0, none⟩)] (fun (x : {k // k ∈ F.kids i}) => aL A x.1) (fun x y => cz (f x.1) (f y.1)) g 0 (F.kids i).attach.toArray.size w := by
  intro m os dk hdk x y
  have hx := hF.kid i hi x.1 x.2
  have hy := hF.kid i hi y.1 y.2
  have hbl : bx < w.heap.size := World.block_lt_of_cell? w _ kj
  have h1 : (sortWorld (fun (x : {k // k ∈ F.kids i}) => aL A x.1) w g 0 m dk os).cell? ⟨bx, 0, none⟩ = some (.map (some m0)) := by
   rw [World.cell?_of_block (a := ⟨bx, 0, none⟩) (eH (Ne.symm hgb) hbl)]; exact kj
  refine (O7 _ bx m0 (A x.1) (A y.1) l (f x.1) (f y.1) h1 (hm.of_block (eH (Ne.symm hgm) hm.lt)) (fun z hz => ?_)
   ((hF.plain hx).of_block (eH (Pj _ hx) (hF.lt hx))) ((hF.plain hy).of_block (eH (Pj _ hy) (hF.lt hy))) (hl x.1 x.2) (hl y.1 y.2)).mono fun e w' ⟨he, hw⟩ => ⟨he, 0, #[], by rw [← hw, grow_empty]; rfl⟩
  obtain ⟨k, hk, e⟩ := hok z hz
  rw [e]
  exact (hF.plain hk).of_block (eH (Pj _ hk) (hF.lt hk))
 have hcon := Any.slices_SortFunc_total Tryz.sortNode (fun (x : {k // k ∈ F.kids i}) => aL A x.1) (fun _ => rfl) (fun x y => cz (f x.1) (f y.1)) (Sh f) 222 #[.pointer (some ⟨bx, 0, none⟩)] g 0 cap (F.kids i).attach.toArray w eg hcmp hH tN (by rw [hsize]; omega)
  (fun x y h1 h2 => by
   simp only [ltOf, decide_eq_false_iff_not] at h1 h2
   have h3 : cz (f x.1) (f y.1) = 0 := by have := gU (f x.1) (f y.1); omega
   exact Subtype.ext (hs x.1 x.2 y.1 y.2 (gV h3)))
 rw [hsize, ← hv] at hcon
 refine hcon.mono fun e w' ⟨he, m, os, hw⟩ => ⟨he, ?_, ?_⟩
 ·have hsrt : (((F.kids i).attach.toArray.toList.mergeSort fun x y => !(ltOf fun (x y : {k // k ∈ F.kids i}) => cz (f x.1) (f y.1)) y x).map fun x => x.1) = cH f (F.kids i) := by
   have h := List.map_mergeSort (f := fun (x : {k // k ∈ F.kids i}) => x.1) (r := fun x y => !(ltOf fun (x y : {k // k ∈ F.kids i}) => cz (f x.1) (f y.1)) y x) (s := ny f) (l := (F.kids i).attach) (fun a _ b _ => by
    simp only [ltOf, ny]
    have := gU (f a.1) (f b.1)
    by_cases h : cz (f a.1) (f b.1) ≤ 0
    ·rw [decide_eq_true h]; simp; omega
    ·rw [decide_eq_false h]; simp; omega)
   rw [List.toList_toArray]
   rw [h, List.attach_map_subtype_val]
   rfl
  have ho : aA base 124 w' (kv i) ((cH f (F.kids i)).map (aL A)) := by
   rw [hv, hw, ← hsrt, List.map_map]
   have h := aA.sorted (enc := fun (x : {k // k ∈ F.kids i}) => aL A x.1) (n := m) (os := os) (ts := ((F.kids i).attach.toArray.toList.mergeSort fun x y => !(ltOf fun (x y : {k // k ∈ F.kids i}) => cz (f x.1) (f y.1)) y x)) (vs := (F.kids i).map (aL A)) (by rw [MS]; exact hown) (by simp)
   rw [MS] at h
   exact h
  have hsame : ∀ b, b ≠ g → b < w.heap.size → w'.heap[b]? = w.heap[b]? := fun b hb hbl => by rw [hw]; exact eH hb hbl
  have h2 := hF.put (w' := w') (k := i) (v := kv i) (ks := cH f (F.kids i)) hi (fun j hj _ => hsame _ (Pj j hj) (hF.lt hj)) (by rw [hsame _ (Pj i hi) (hF.lt hi)]; exact hF.node i hi) ho
   (fun j b hj hji hb => hsame b (fun e => hji (hF.alone j i b hj hi hb (by rw [hgo, e]))) (hF.ep hj hb).2) (fun b hb => .inl hb) (fun j hj => hF.kid i hi j ((eu _ _).mem_iff.1 hj))
  have hkv : upd kv i (kv i) = kv := by
   funext j; by_cases e : j = i
   ·subst e; exact upd_same _ _ _
   ·exact upd_ne _ _ e
  rw [hkv] at h2
  exact h2
 ·rw [hw]
  exact ⟨rfl, rfl, rfl, Dr _ _ _ _ _, fun b hb _ h2 => eH (fun e => h2 i hi (by rw [hgo, e])) hb⟩
end
section
open Go.RowKit Go.Deep
section
variable {P : Program} {ops : Array Oper} {rest : List Oper} {o : Oper} {a : Act} {Q : Exit → Act → World → Prop}
end
end
section
open Go.RowKit Go.Deep
end
section
open Go.RowKit Go.Shelf Go.Deep
end
section
open Go.RowKit Go.Deep
end
end Go.Proofs.YteegefnjnikngaaGreat
