/- phylotree.nodes again: the row of nodes lies apart from the forest. SharederrorClades: .. -/
import Derived.Test.YthgabkgmkolobaaGreatQ9
import Derived.StillTail
import Derived.Laws.IdiomStrings
import Derived.Sort.OwnSorted
import Derived.Shelf.Slices.In.SortNone
import Derived.Shelf.SlGeneric
import Derived.Shelf.Lays
import Derived.Shelf.Sort.Plain
import Derived.Ground.NamesProg
import Derived.Test.YthgabkgmkolobaaGreatProg
import Derived.Test.YthgabkgmkolobaaGreatQ23
import Derived.Test.YthgabkgmkolobaaGreatQ19
import Derived.Test.YthgabkgmkolobaaGreatQ15
import Derived.Test.YthgabkgmkolobaaGreatQ6
import Derived.Test.YthgabkgmkolobaaGreatQ17
import Derived.Test.YthgabkgmkolobaaGreatQ5
import Derived.Test.YthgabkgmkolobaaGreatQ3
import Derived.Test.YthgabkgmkolobaaGreatQ21
import Derived.Test.YthgabkgmkolobaaGreatQ1
import Derived.Test.YthgabkgmkolobaaGreatQ2
import Derived.Test.YthgabkgmkolobaaGreatQ22
import Derived.Test.YthgabkgmkolobaaGreatQ8
import Derived.Shelf.Strings.IndexAnyAll
import Derived.Ground.Names2Prog
set_option maxRecDepth 100000
namespace Go.Proofs.YthgabkgmkolobaaGreat
section
open Go.RowKit Go.Deep
def MM (w : World) (t : ay) (e : Ending) (w' : World) : Prop :=
 Up w w' ∧ ∃ g A kv, w.heap.size ≤ g ∧ e = .returned (.slice (some ⟨g, 0, none⟩) t.ps.length t.ps.length) ∧ bq (g + 1) t.ps.length A kv (ew t) w' ∧ w'.rowIs g 119 t.ps.length (bu A)
set_option maxHeartbeats 2000000 in
theorem SB (S : Nat → Prop) (w : World) (v : Value) (t : ay) (hT : aA S w v t) (hp : t.ps.length ≤ 1000) (hn : t.ns.length = t.ps.length) (hok : fZ t.ps = true) (hz : ∀ k, (gs t.ns k).size ≤ 70000) :
  Calls Tryz.prog 93 #[v] w (MM w t) := by
 obtain ⟨P, N, rfl, hP, hN⟩ := hT
 obtain ⟨pP, gQ, rfl, hcapP, _⟩ := aB.open hP
 have hP : aq S w (.slice pP t.ps.length gQ) t.ps := hP
 obtain ⟨pN, gT, rfl, hcapN, _⟩ := aB.open hN
 have hN : ah S w (.slice pN t.ns.length gT) t.ns := hN
 have hmk := fun W => run_make_row' (P := Tryz.prog) 120 119 (.pointer none) 8 Tryz.underlying120 Tryz.rQ rfl .i64 .i64 t.ps.length (by omega) (by omega) W
 have hu := Up.alloc w (.cells #[.slice pP t.ps.length gQ, .slice pN t.ns.length gT] 39)
 have hb0 := dW w (.slice pP t.ps.length gQ) (.slice pN t.ns.length gT) 39
 have hb1 := eu w (.slice pP t.ps.length gQ) (.slice pN t.ns.length gT) 39
 have aG := Up.alloc (w.alloc (.cells #[.slice pP t.ps.length gQ, .slice pN t.ns.length gT] 39)) (.cells (madeCells #[.pointer none] t.ps.length) 119)
 have HW : Hid (zQ ((w.alloc (.cells #[.slice pP t.ps.length gQ, .slice pN t.ns.length gT] 39)).alloc (.cells (madeCells #[.pointer none] t.ps.length) 119)) ((w.alloc (.cells #[.slice pP t.ps.length gQ, .slice pN t.ns.length gT] 39)).alloc (.cells (madeCells #[.pointer none] t.ps.length) 119)) (w.heap.size + 1) t.ps.length 0 t) := by
  refine ⟨Below.refl _ _, fun _ => 0, fun _ => .slice none 0 0, bq.empty _ _ _ _ _, ?_⟩
  have h := World.rowIs_made (w.alloc (.cells #[.slice pP t.ps.length gQ, .slice pN t.ns.length gT] 39)) (.pointer none) t.ps.length 119
  simp only [World.size_alloc] at h
  exact h
 have kC := aa (hu.trans aG)
 have hsz : w.heap.size + 1 + 1 = ((w.alloc (.cells #[.slice pP t.ps.length gQ, .slice pN t.ns.length gT] 39)).alloc (.cells (madeCells #[.pointer none] t.ps.length) 119)).heap.size := by simp
 have ct := aa hsz
 have gj := aa (aG.cell hb0)
 have gm := aa (aG.cell hb1)
 have HP := aa hP
 have HN := aa hN
 have UC := aa hz
 have lU := aa hok
 have dG := aa hn
 have hnl : (t.ps.length : Int) ≤ (t.ns.length : Int) := by omega
 clear hsz hu hb0 hb1 aG hP hN hz hok hn
 go_enter Tryz.func93, Tryz.ntmps93
 go_wp2_with fail
 generalize (w.alloc (.cells #[.slice pP t.ps.length gQ, .slice pN t.ns.length gT] 39)).alloc (.cells (madeCells #[.pointer none] t.ps.length) 119) = w1 at *
 go_loopw [13] (fun i wr => ∃ k : Nat, k ≤ t.ps.length ∧ i = .int .i64 k ∧ Hid (zQ w1 wr (w.heap.size + 1) t.ps.length k t)) (fun i _ => t.ps.length - (intOf i).toNat)
 case atStart => exact ⟨0, Nat.zero_le _, rfl, HW⟩
 case round =>
  obtain ⟨k, hk, rfl, hO⟩ := hrel
  obtain ⟨wo, rfl⟩ : ∃ wo : World, wo = wr := ⟨_, rfl⟩
  by_cases hlt : k < t.ps.length
  ·obtain ⟨eZ, A, kv, hF, hrow⟩ := hO.out
   have hc0 : wo.cell? ⟨w.heap.size, 0, none⟩ = some (.slice pP t.ps.length gQ) := by rw [eZ.cell (p := ⟨w.heap.size, 0, none⟩) (Nat.lt_succ_self _)]; exact gj.out
   have hc1 : wo.cell? ⟨w.heap.size, 1, none⟩ = some (.slice pN t.ns.length gT) := by rw [eZ.cell (p := ⟨w.heap.size, 1, none⟩) (Nat.lt_succ_self _)]; exact gm.out
   have Gi : Up w wo := Below.trans kC.out (eZ.mono (Nat.le_succ _))
   obtain ⟨bP, oP, rfl, nA⟩ := cK (aq.keep HP.out (Gi.kept S)) hlt
   obtain ⟨bN, oN, rfl, qB⟩ := bz (ah.keep HN.out (Gi.kept S)) (k := k) (by rw [dG.out]; exact hlt)
   have HX := aa hO.out.new
   have XM : (wo.alloc (.cells #[.string (gs t.ns k), .slice none 0 0, .int .i64 k] 122)).cell? ⟨w.heap.size + 1, k, none⟩ = some (.pointer none) := by
    have h := (hrow.alloc (.cells #[.string (gs t.ns k), .slice none 0 0, .int .i64 k] 122)).cell hlt
    rw [h, if_neg (Nat.lt_irrefl k)]
   have hfo : (wo.alloc (.cells #[.string (gs t.ns k), .slice none 0 0, .int .i64 k] 122)).frozen? ⟨w.heap.size + 1, k, none⟩ = false := (hrow.alloc _).frozen k
   clear hF hrow eZ Gi hO
   have h0 : gi t.ps k < k ∧ (0 < k → 0 ≤ gi t.ps k) ∧ (k = 0 → gi t.ps k = -1) := kM lU.out hlt
   by_cases ig : 0 ≤ gi t.ps k
   ·obtain ⟨p, zR⟩ := Int.eq_ofNat_of_zero_le ig
    have hpk : p < k := by omega
    rw [zR] at nA
    have d1 : decide ((0 : Int) ≤ (p : Int)) = true := by simp
    have wT := aa zR
    clear h0 ig zR
    go_wp2_with fail
    generalize (wo.alloc (.cells #[.string (gs t.ns k), .slice none 0 0, .int .i64 k] 122)).setCell ⟨w.heap.size + 1, k, none⟩ (.pointer (some ⟨wo.heap.size, 0, none⟩)) = w2 at *
    obtain ⟨A, kv, hAk, hX⟩ := HX.out
    have hr1 : w2.cell? ⟨w.heap.size + 1, p, none⟩ = some (.pointer (some ⟨A p, 0, none⟩)) := by
     have h := hX.row.cell (i := p) (by omega)
     rw [if_pos (by omega)] at h; exact h
    have hr2 : w2.cell? ⟨w.heap.size + 1, k, none⟩ = some (.pointer (some ⟨A k, 0, none⟩)) := by
     have h := hX.row.cell (i := k) hlt
     rw [if_pos (by omega)] at h; exact h
    have XN : Hid (bu A k = .pointer (some ⟨wo.heap.size, 0, none⟩)) := by unfold Hid bu; rw [hAk]
    rw [hAk] at hr2
    have hkc := hX.fr.qo (i := p) (by omega)
    have hfz := hX.fr.thaw (i := p) (by omega) 1
    have Gj : Hid (aC (w.heap.size + 1 + 1) 119 w2 (kv p) ((bI t.ps p k).map (bu A))) := by have h := hX.fr.own p (by omega); rw [oD] at h; exact h
    have uv := aa hX
    have Gk : Hid (A p ≠ w.heap.size + 1 ∧ (kv p).ownBlock ≠ some (w.heap.size + 1) ∧ (kv p).ownBlock ≠ some (A p) ∧ w.heap.size + 1 < w2.heap.size ∧ A p < w2.heap.size) := ⟨(hX.fr.far (by omega)).1, (hX.fr.far (by omega)).2, hX.fr.apart p p (by omega) (by omega), hX.row.lt, hX.fr.lt (by omega)⟩
    have i0 : (0 : Int) ≤ (p : Int) := by omega
    have i1 : (p : Int) < (t.ps.length : Int) := by omega
    have i2 : (0 : Int) ≤ (k : Int) := by omega
    have i3 : (k : Int) < (t.ps.length : Int) := by omega
    have iB : Hid (((bI t.ps p k).map (bu A)).length ≤ 1000000) := by unfold Hid; rw [List.length_map]; have := pW t.ps p k; omega
    have BD : Hid (∀ g cap w', aC (w.heap.size + 1 + 1) 119 w' (.slice (some ⟨g, 0, none⟩) (((bI t.ps p k).map (bu A)).length + 1) cap) ((bI t.ps p k).map (bu A) ++ [.pointer (some ⟨wo.heap.size, 0, none⟩)]) → w2.grownBy w' (kv p).ownBlock → ((kv p).ownBlock = some g ∨ w2.heap.size ≤ g) → zQ w1 (w'.setCell ⟨A p, 1, none⟩ (.slice (some ⟨g, 0, none⟩) (((bI t.ps p k).map (bu A)).length + 1) cap)) (w.heap.size + 1) t.ps.length (k + 1) t) := fun g cap w' h1 h2 h3 => hX.push hpk wT.out (by rw [XN.out]; exact h1) h2 (fun b hb => by cases hb; exact h3)
    clear hAk hX HX XM hfo nA qB hc0 hc1
    generalize bu A = na at *
    generalize hap : A p = ap at *
    generalize wo.heap.size = ak at *
    generalize kv p = ov at *
    generalize List.map na (bI t.ps p k) = vs at *
    have Rw : Hid (aC (w.heap.size + 1 + 1) 119 (w2.alloc (.cells #[.pointer (some ⟨ak, 0, none⟩)] 119)).drew ov vs) := Gj.out.alloc _
    have ij : Hid ((w2.alloc (.cells #[.pointer (some ⟨ak, 0, none⟩)] 119)).drew.cell? ⟨w2.heap.size, 0, none⟩ = some (.pointer (some ⟨ak, 0, none⟩))) := aO _ _ _ 0
    have og : Hid (w.heap.size + 1 + 1 ≤ (w2.alloc (.cells #[.pointer (some ⟨ak, 0, none⟩)] 119)).drew.heap.size) := by
     have := Gk.out.2.2.2.1
     show _ ≤ (w2.alloc _).heap.size
     rw [World.size_alloc]; omega
    have Gl : Hid (∀ (w' : World), (w2.alloc (.cells #[.pointer (some ⟨ak, 0, none⟩)] 119)).drew.grownBy w' ov.ownBlock → w'.cell? ⟨w.heap.size + 1, p, none⟩ = some (.pointer (some ⟨ap, 0, none⟩)) ∧ w'.cell? ⟨w.heap.size + 1, k, none⟩ = some (.pointer (some ⟨ak, 0, none⟩)) ∧ w'.cell? ⟨ap, 1, none⟩ = some ov ∧ w'.frozen? ⟨ap, 1, none⟩ = false) := fun w' hg => by
     obtain ⟨q1, q2, q3, q4, q5⟩ := Gk.out
     have hl : ∀ b, b < w2.heap.size → b < (w2.alloc (.cells #[.pointer (some ⟨ak, 0, none⟩)] 119)).drew.heap.size := fun b hb => by show b < (w2.alloc _).heap.size; rw [World.size_alloc]; omega
     have hu := Up.alloc w2 (.cells #[.pointer (some ⟨ak, 0, none⟩)] 119)
     refine ⟨?_, ?_, ?_, ?_⟩
     ·rw [hg.cell_far _ (hl _ q4) (Ne.symm q2)]; exact hu.cell hr1
     ·rw [hg.cell_far _ (hl _ q4) (Ne.symm q2)]; exact hu.cell hr2
     ·rw [hg.cell_far _ (hl _ q5) (Ne.symm q3)]; exact hu.cell hkc
     ·rw [hg.frozen_far _ (hl _ q5) (Ne.symm q3)]; exact (Below.frozen hu (p := ⟨ap, 1, none⟩) q5).trans hfz
    have hr1a := (Up.alloc w2 (.cells #[.pointer (some ⟨ak, 0, none⟩)] 119)).cell hr1
    have hr2a := (Up.alloc w2 (.cells #[.pointer (some ⟨ak, 0, none⟩)] 119)).cell hr2
    have hkca := (Up.alloc w2 (.cells #[.pointer (some ⟨ak, 0, none⟩)] 119)).cell hkc
    clear uv
    refine dM (by kernel_rfl) 20 (fun w' => w'.cell? ⟨w.heap.size + 1, p, none⟩ = some (.pointer (some ⟨ap, 0, none⟩)) ∧ w'.cell? ⟨w.heap.size + 1, k, none⟩ = some (.pointer (some ⟨ak, 0, none⟩)) ∧ w'.cell? ⟨ap, 1, none⟩ = some ov) ⟨hr1, hr2, hkc⟩ (fun hS => ?_)
    simp only [List.size_toArray, List.length_cons, List.length_nil, Nat.reduceAdd, Array.replicate_succ, Array.replicate_zero, List.push_toArray, List.nil_append, List.cons_append]
    refine af.take (i := 0) (v := ?Ou) rfl (by kernel_rfl) (fun _ _ _ h => h) (by rfl) (fun w hSw => ?xV) hS ?Ov
    case xV =>
     (try dsimp only at hSw)
     go_simp
     try with_reducible rfl
    try simp only [Act.put, au, av, ax]
    refine af.take (i := 1) (v := ?Ow) rfl (by kernel_rfl) (fun _ _ _ h => h) (by rfl) (fun w hSw => ?xW) hS ?Ox
    case xW =>
     (try dsimp only at hSw)
     go_simp
     try with_reducible rfl
    try simp only [Act.put, au, av, ax]
    refine af.take (i := 2) (v := ?Oy) rfl (by kernel_rfl) (fun _ _ _ h => h) (by rfl) (fun w hSw => ?xX) hS ?Oz
    case xX =>
     (try dsimp only at hSw)
     go_simp
     try with_reducible rfl
    try simp only [Act.put, au, av, ax]
    refine af.take (i := 3) (v := ?XO) rfl (by kernel_rfl) (fun _ _ _ h => h) (by rfl) (fun w hSw => ?Gm) hS ?XP
    case Gm =>
     (try dsimp only at hSw)
     go_simp
     try with_reducible rfl
    try simp only [Act.put, au, av, ax]
    refine af.take (i := 4) (v := ?XQ) rfl (by kernel_rfl) (fun _ _ _ h => h) (by rfl) (fun w hSw => ?Gn) hS ?XR
    case Gn =>
     (try dsimp only at hSw)
     go_simp
     try with_reducible rfl
    try simp only [Act.put, au, av, ax]
    refine af.take (i := 5) (v := ?XS) rfl (by kernel_rfl) (fun _ _ _ h => h) (by rfl) (fun w hSw => ?Gp) hS ?XT
    case Gp =>
     (try dsimp only at hSw)
     go_simp
     try with_reducible rfl
    try simp only [Act.put, au, av, ax]
    refine af.take (i := 6) (v := ?XU) rfl (by kernel_rfl) (fun _ _ _ h => h) (by rfl) (fun w hSw => ?Gq) hS ?XV
    case Gq =>
     (try dsimp only at hSw)
     go_simp
     try with_reducible rfl
    try simp only [Act.put, au, av, ax]
    refine af.take (i := 7) (v := ?UD) rfl (by kernel_rfl) (fun _ _ _ h => h) (by rfl) (fun w hSw => ?BF) hS ?UE
    case BF =>
     (try dsimp only at hSw)
     go_simp
     try with_reducible rfl
    try simp only [Act.put, au, av, ax]
    refine af.take (i := 8) (v := ?UF) rfl (by kernel_rfl) (fun _ _ _ h => h) (by rfl) (fun w hSw => ?BG) hS ?UG
    case BG =>
     (try dsimp only at hSw)
     go_simp
     try with_reducible rfl
    try simp only [Act.put, au, av, ax]
    refine af.take (i := 9) (v := ?UH) rfl (by kernel_rfl) (fun _ _ _ h => h) (by rfl) (fun w hSw => ?BH) hS ?UI
    case BH =>
     (try dsimp only at hSw)
     go_simp
     try with_reducible rfl
    try simp only [Act.put, au, av, ax]
    refine af.take (i := 10) (v := ?Rx) rfl (by kernel_rfl) (fun _ _ _ h => h) (by rfl) (fun w hSw => ?AA) hS ?Ry
    case AA =>
     (try dsimp only at hSw)
     go_simp
     try with_reducible rfl
    try simp only [Act.put, au, av, ax]
    refine af.take (i := 11) (v := ?XW) rfl (by kernel_rfl) (fun _ _ _ h => h) (by rfl) (fun w hSw => ?Gr) hS ?XX
    case Gr =>
     (try dsimp only at hSw)
     go_simp
     try with_reducible rfl
    try simp only [Act.put, au, av, ax]
    refine af.take (i := 12) (v := ?XY) rfl (by kernel_rfl) (fun _ _ _ h => h) (by rfl) (fun w hSw => ?Gs) hS ?XZ
    case Gs =>
     (try dsimp only at hSw)
     go_simp
     try with_reducible rfl
    try simp only [Act.put, au, av, ax]
    refine af.take (i := 13) (v := ?X0) rfl (by kernel_rfl) (fun _ _ _ h => h) (by rfl) (fun w hSw => ?Gt) hS ?X3
    case Gt =>
     (try dsimp only at hSw)
     go_simp
     try with_reducible rfl
    try simp only [Act.put, au, av, ax]
    refine af.take (i := 14) (v := ?X4) rfl (by kernel_rfl) (fun _ _ _ h => h) (by rfl) (fun w hSw => ?Gu) hS ?X5
    case Gu =>
     (try dsimp only at hSw)
     go_simp
     try with_reducible rfl
    try simp only [Act.put, au, av, ax]
    refine af.step (i := 15) rfl (by kernel_rfl) (fun K' hK => ?_)
    go_simp
    refine hK.out _ _ (fun _ => ⟨(Up.alloc _ _).cell hr1, (Up.alloc _ _).cell hr2, (Up.alloc _ _).cell hkc⟩) (fun hS => ?_)
    try simp only [au, av, ax]
    refine af.step (i := 16) rfl (by kernel_rfl) (fun K' hK => ?_)
    refine fN (by rfl) _ _ _ (by rfl) (w.heap.size + 1 + 1) 119 _ 8 Tryz.underlying120 Tryz.rQ (by rfl) (by decide) (by rfl) Rw.out (.pointer (some ⟨ak, 0, none⟩)) w2.heap.size (by rfl) ij.out (by rfl) iB.out og.out ?_
    intro g cap w4 s9 hg4 xY Gw
    obtain ⟨Rz, RA, RB, hfz4⟩ := Gl.out w4 hg4
    have Mn := aa s9
    have OA := aa (mF hg4)
    have RD := aa xY
    clear s9 hg4 xY Gw
    refine hK.out _ _ (fun _ => ⟨Rz, RA, RB⟩) (fun hS => ?_)
    replace hS := hS ⟨19, by decide, rfl⟩
    try simp only [Act.put, au, av, ax]
    refine af.take (i := 17) (v := ?gv17) rfl (by kernel_rfl) (fun _ _ _ h => h) (by rfl) (fun w hSw => ?RF) hS ?gr17
    case RF =>
     (try dsimp only at hSw)
     go_simp
     try with_reducible rfl
    try simp only [Act.put, au, av, ax]
    refine af.take (i := 18) (v := ?gv18) rfl (by kernel_rfl) (fun _ _ _ h => h) (by rfl) (fun w hSw => ?RG) hS ?gr18
    case RG =>
     (try dsimp only at hSw)
     go_simp
     try with_reducible rfl
    try simp only [Act.put, au, av, ax]
    refine af.step (i := 19) rfl (by kernel_rfl) (fun K' hK => ?_)
    go_simp
    refine hK.out _ _ (aJ (by kernel_rfl)) (fun hS => ?_)
    refine af.done (by kernel_rfl) ?_
    go_wp2_with fail
    go_roundw
    case rel =>
     refine ⟨k + 1, by omega, by go_num, BD.out g cap w4 Mn.out OA.out ?_⟩
     rcases RD.out with h | h
     ·exact .inl h
     ·refine .inr ?_
      rw [h]; exact Nat.le_trans (Nat.le_succ _) (Nat.le_of_eq (World.size_alloc _ _).symm)
    case measure => simp [intOf]; omega
   ·have wT : Hid (gi t.ps k < 0) := by unfold Hid; omega
    have d1 : decide ((0 : Int) ≤ gi t.ps k) = false := by simpa using ig
    clear h0 ig
    go_wp2_with fail
    go_roundw
    case rel =>
     obtain ⟨A', kv', _, hX⟩ := HX.out
     exact ⟨k + 1, by omega, by go_num, hX.root wT.out⟩
    case measure => simp [intOf]; omega
  ·obtain rfl : k = t.ps.length := by omega
   go_wp2_with fail
   go_ret
   obtain ⟨eZ, A, kv, hF, hrow⟩ := hO.out
   exact ⟨Below.trans kC.out (eZ.mono (Nat.le_succ _)), _, A, kv, Nat.le_succ _, rfl, hF, hrow.congr fun i hi => by rw [if_pos hi]⟩
end
section
open Go.RowKit Go.Deep
section
variable {P : Program} {ops : Array Oper} {rest : List Oper} {o : Oper} {a : Act} {Q : Exit → Act → World → Prop}
theorem yB (W : World) (hgd : o.guard = none) (s x : Operand) (t : TypeId) (ho : o.op = .call { callee := .builtin .append, args := #[s, x], argTypes := #[t, t] })
  (base : Nat) (e : TypeId) (z : Value) (bytes : Nat) (ht : P.underlying t = some (.slice e)) (hinfo : (P.info? e).map (fun i => (i.zero, i.size, i.bytes)) = some (some z, 1, bytes))
  (hz1 : z.cells.size = 1) (mg : bytes ≤ 64) {v : Value} {vs : List Value} (hown : aC base e W v vs) (hs : a.eval s = v) (u : Value) (m : Nat) (hm : W.heap.size = m)
  (hx : a.eval x = .slice (some ⟨m, 0, none⟩) 1 1) (h1 : u.oneCell' = true) (k : Nat) (zN : vs.length = k) (hn : k ≤ 1000000) (hbase : base ≤ W.heap.size)
  (h : ∀ g cap w', aC base e w' (.slice (some ⟨g, 0, none⟩) (k + 1) cap) (vs ++ [u]) → W.grownBy w' v.ownBlock → (v.ownBlock = some g ∨ W.heap.size ≤ g) → wpList P ops Q rest (a.put o.dst (.slice (some ⟨g, 0, none⟩) (k + 1) cap)) w') :
  wpList P ops Q (o :: rest) a (W.alloc (.cells #[u] e)) := by
 subst hm
 exact fM W hgd s x t ho base e z bytes ht hinfo hz1 mg hown hs u hx h1 k zN hn hbase h
end
end
end Go.Proofs.YthgabkgmkolobaaGreat
namespace Go.Proofs
open Go.Shelf
def Tryz.idxA_ren : Go.Shelf.Ren := ⟨fun | 153 => 166 | 152 => 217 | 226 => 218 | 227 => 219 | 228 => 220 | 137 => 261 | 119 => 262 | 224 => 263 | 225 => 264 | 217 => 277 | 266 => 290 | n => n, fun | 9 => 9 | 3 => 3 | 4 => 4 | 5 => 5 | 21 => 21 | 117 => 226 | 116 => 225 | 0 => 0 | 46 => 154 | 124 => 262 | n => n, fun | n => n⟩
theorem Tryz.idxA : Go.Proofs.Lays.n153 Tryz.prog Tryz.idxA_ren := {
 mixed := by kernel_rfl
 f119 := Tryz.func262.trans (congrArg some (by kernel_rfl))
 f137 := Tryz.func261.trans (congrArg some (by kernel_rfl))
 f152 := Tryz.func217.trans (congrArg some (by kernel_rfl))
 f153 := Tryz.func166.trans (congrArg some (by kernel_rfl))
 f217 := Tryz.func277.trans (congrArg some (by kernel_rfl))
 f224 := Tryz.func263.trans (congrArg some (by kernel_rfl))
 f225 := Tryz.func264.trans (congrArg some (by kernel_rfl))
 f226 := Tryz.func218.trans (congrArg some (by kernel_rfl))
 f227 := Tryz.func219.trans (congrArg some (by kernel_rfl))
 f228 := Tryz.func220.trans (congrArg some (by kernel_rfl))
 f266 := Tryz.func290.trans (congrArg some (by kernel_rfl))
 t0 := Tryz.underlying0
 a0 := Tryz.isAgg0
 z0 := Tryz.sizeOf0
 v0 := Tryz.zeroValue0
 t3 := Tryz.underlying3
 a3 := Tryz.isAgg3
 z3 := Tryz.sizeOf3
 v3 := Tryz.zeroValue3
 t4 := Tryz.underlying4
 a4 := Tryz.isAgg4
 z4 := Tryz.sizeOf4
 v4 := Tryz.zeroValue4
 t5 := Tryz.underlying5
 a5 := Tryz.isAgg5
 z5 := Tryz.sizeOf5
 v5 := Tryz.zeroValue5
 t9 := Tryz.underlying9
 a9 := Tryz.isAgg9
 z9 := Tryz.sizeOf9
 v9 := Tryz.zeroValue9
 t21 := Tryz.underlying21
 a21 := Tryz.isAgg21
 z21 := Tryz.sizeOf21
 v21 := Tryz.zeroValue21
 t46 := Tryz.underlying154
 a46 := Tryz.isAgg154
 z46 := Tryz.sizeOf154
 v46 := Tryz.zeroValue154
 t116 := Tryz.underlying225
 a116 := Tryz.isAgg225
 z116 := Tryz.sizeOf225
 t117 := Tryz.underlying226
 a117 := Tryz.isAgg226
 z117 := Tryz.sizeOf226
 v117 := Tryz.zeroValue226
 t124 := Tryz.underlying262
 a124 := Tryz.isAgg262
 z124 := Tryz.sizeOf262
 v124 := Tryz.zeroValue262 }
end Go.Proofs
