/- phylotree.nodes again: the row of nodes lies apart from the forest. The contract of phylotree.Print. Valid trees and their texts, plain: what the statements on texts, equal trees and canonical trees say. The parts of the rerooted tree, plain: which sets of leaves they have. The contract of layer 31's reference's SameTree, at trees that are the same. The example of the chapter: three, awake. The example of chapter 35: awake. The plain law of SharederrorSupport: the supports of the different sets. The walk of SharederrorSupport. The walk of SharederrorLeaves. The walk of SharederrorNested. The contract of phylotree.pruned. The contract of phylotree.contracted. -/
import Derived.Test.YtcbmbhghmfehpaaGreatQ7
import Derived.Test.YtcbmbhghmfehpaaGreatQ21
import Derived.Test.YtcbmbhghmfehpaaGreatQ19
import Derived.Test.YtcbmbhghmfehpaaGreatQ20
import Derived.Test.YtcbmbhghmfehpaaGreatQ16
import Derived.Test.YtcbmbhghmfehpaaGreatQ15
import Derived.Test.YtcbmbhghmfehpaaGreatQ4
import Derived.Test.YtcbmbhghmfehpaaGreatQ6
import Derived.Test.YtcbmbhghmfehpaaGreatQ12
import Derived.Test.YtcbmbhghmfehpaaGreatQ17
namespace Go.Proofs.YtcbmbhghmfehpaaGreat
open Go.RowKit Go.Deep
def NodesPost2 (w : World) (t : Tre) (e : Ending) (w' : World) : Prop :=
  Up w w' ∧ ∃ g A kv, w.heap.size ≤ g ∧ e = .returned (.slice (some ⟨g, 0, none⟩) t.ps.length t.ps.length) ∧ FAt (g + 1) t.ps.length A kv (frT t) w' ∧ w'.rowIs g 145 t.ps.length (nptr A)
set_option maxRecDepth 100000 in
set_option maxHeartbeats 2000000 in
theorem nodes2_t (S : Nat → Prop) (w : World) (v : Value) (t : Tre) (hT : TreeAt S w v t) (hp : t.ps.length ≤ 1000) (hn : t.ns.length = t.ps.length) (hok : pOkB t.ps = true) (hz : ∀ k, (gs t.ns k).size ≤ 70000) :
    Calls Tryz.prog 131 #[v] w (NodesPost2 w t) := by
  obtain ⟨P, N, rfl, hP, hN⟩ := hT
  obtain ⟨pP, capP, rfl, hcapP, _⟩ := SlAt.open hP
  have hP : IntsAt S w (.slice pP t.ps.length capP) t.ps := hP
  obtain ⟨pN, capN, rfl, hcapN, _⟩ := SlAt.open hN
  have hN : StrsAt S w (.slice pN t.ns.length capN) t.ns := hN
  have hmk := fun W => run_make_row' (P := Tryz.prog) 143 145 (.pointer none) 8 Tryz.underlying143 Tryz.infoNP rfl .i64 .i64 t.ps.length (by omega) (by omega) W
  have hu := Up.alloc w (.cells #[.slice pP t.ps.length capP, .slice pN t.ns.length capN] 45)
  have hb0 := box2_0 w (.slice pP t.ps.length capP) (.slice pN t.ns.length capN) 45
  have hb1 := box2_1 w (.slice pP t.ps.length capP) (.slice pN t.ns.length capN) 45
  have hu2 := Up.alloc (w.alloc (.cells #[.slice pP t.ps.length capP, .slice pN t.ns.length capN] 45)) (.cells (madeCells #[.pointer none] t.ps.length) 145)
  have HW : Hid (NdW ((w.alloc (.cells #[.slice pP t.ps.length capP, .slice pN t.ns.length capN] 45)).alloc (.cells (madeCells #[.pointer none] t.ps.length) 145)) ((w.alloc (.cells #[.slice pP t.ps.length capP, .slice pN t.ns.length capN] 45)).alloc (.cells (madeCells #[.pointer none] t.ps.length) 145)) (w.heap.size + 1) t.ps.length 0 t) := by
    refine ⟨Below.refl _ _, fun _ => 0, fun _ => .slice none 0 0, FAt.empty _ _ _ _ _, ?_⟩
    have h := World.rowIs_made (w.alloc (.cells #[.slice pP t.ps.length capP, .slice pN t.ns.length capN] 45)) (.pointer none) t.ps.length 145
    simp only [World.size_alloc] at h
    exact h
  have HUW := Lib.hid (hu.trans hu2)
  have hsz : w.heap.size + 1 + 1 = ((w.alloc (.cells #[.slice pP t.ps.length capP, .slice pN t.ns.length capN] 45)).alloc (.cells (madeCells #[.pointer none] t.ps.length) 145)).heap.size := by simp
  have HSZ := Lib.hid hsz
  have HB0 := Lib.hid (hu2.cell hb0)
  have HB1 := Lib.hid (hu2.cell hb1)
  have HP := Lib.hid hP
  have HN := Lib.hid hN
  have HNS := Lib.hid hz
  have HOK := Lib.hid hok
  have HLN := Lib.hid hn
  have hnl : (t.ps.length : Int) ≤ (t.ns.length : Int) := by omega
  clear hsz hu hb0 hb1 hu2 hP hN hz hok hn
  go_enter Tryz.func131, Tryz.ntmps131
  go_wp2_with fail
  generalize (w.alloc (.cells #[.slice pP t.ps.length capP, .slice pN t.ns.length capN] 45)).alloc (.cells (madeCells #[.pointer none] t.ps.length) 145) = w1 at *
  go_loopw [13] (fun i wr => ∃ k : Nat, k ≤ t.ps.length ∧ i = .int .i64 k ∧ Hid (NdW w1 wr (w.heap.size + 1) t.ps.length k t)) (fun i _ => t.ps.length - (intOf i).toNat)
  case atStart => exact ⟨0, Nat.zero_le _, rfl, HW⟩
  case round =>
    obtain ⟨k, hk, rfl, hO⟩ := hrel
    obtain ⟨wo, rfl⟩ : ∃ wo : World, wo = wr := ⟨_, rfl⟩
    by_cases hlt : k < t.ps.length
    · obtain ⟨hup, A, kv, hF, hrow⟩ := hO.out
      have hc0 : wo.cell? ⟨w.heap.size, 0, none⟩ = some (.slice pP t.ps.length capP) := by rw [hup.cell (p := ⟨w.heap.size, 0, none⟩) (Nat.lt_succ_self _)]; exact HB0.out
      have hc1 : wo.cell? ⟨w.heap.size, 1, none⟩ = some (.slice pN t.ns.length capN) := by rw [hup.cell (p := ⟨w.heap.size, 1, none⟩) (Nat.lt_succ_self _)]; exact HB1.out
      have hUp : Up w wo := Below.trans HUW.out (hup.mono (Nat.le_succ _))
      obtain ⟨bP, oP, rfl, hcP⟩ := ints_get (IntsAt.keep HP.out (hUp.kept S)) hlt
      obtain ⟨bN, oN, rfl, hcN⟩ := strs_get (StrsAt.keep HN.out (hUp.kept S)) (k := k) (by rw [HLN.out]; exact hlt)
      have HX := Lib.hid hO.out.new
      have hco : (wo.alloc (.cells #[.string (gs t.ns k), .slice none 0 0, .int .i64 k] 147)).cell? ⟨w.heap.size + 1, k, none⟩ = some (.pointer none) := by
        have h := (hrow.alloc (.cells #[.string (gs t.ns k), .slice none 0 0, .int .i64 k] 147)).cell hlt
        rw [h, if_neg (Nat.lt_irrefl k)]
      have hfo : (wo.alloc (.cells #[.string (gs t.ns k), .slice none 0 0, .int .i64 k] 147)).frozen? ⟨w.heap.size + 1, k, none⟩ = false := (hrow.alloc _).frozen k
      clear hF hrow hup hUp hO
      have h0 : gi t.ps k < k ∧ (0 < k → 0 ≤ gi t.ps k) ∧ (k = 0 → gi t.ps k = -1) := par_ok HOK.out hlt
      by_cases hp0 : 0 ≤ gi t.ps k
      · obtain ⟨p, hpp⟩ := Int.eq_ofNat_of_zero_le hp0
        have hpk : p < k := by omega
        rw [hpp] at hcP
        have d1 : decide ((0 : Int) ≤ (p : Int)) = true := by simp
        have HPP := Lib.hid hpp
        clear h0 hp0 hpp
        go_wp2_with fail
        generalize (wo.alloc (.cells #[.string (gs t.ns k), .slice none 0 0, .int .i64 k] 147)).setCell ⟨w.heap.size + 1, k, none⟩ (.pointer (some ⟨wo.heap.size, 0, none⟩)) = w2 at *
        obtain ⟨A, kv, hAk, hX⟩ := HX.out
        have hr1 : w2.cell? ⟨w.heap.size + 1, p, none⟩ = some (.pointer (some ⟨A p, 0, none⟩)) := by
          have h := hX.row.cell (i := p) (by omega)
          rw [if_pos (by omega)] at h; exact h
        have hr2 : w2.cell? ⟨w.heap.size + 1, k, none⟩ = some (.pointer (some ⟨A k, 0, none⟩)) := by
          have h := hX.row.cell (i := k) hlt
          rw [if_pos (by omega)] at h; exact h
        have HNK : Hid (nptr A k = .pointer (some ⟨wo.heap.size, 0, none⟩)) := by unfold Hid nptr; rw [hAk]
        rw [hAk] at hr2
        have hkc := hX.fr.kidv (i := p) (by omega)
        have hfz := hX.fr.thaw (i := p) (by omega) 1
        have HOWN : Hid (Owns (w.heap.size + 1 + 1) 145 w2 (kv p) ((kidsK t.ps p k).map (nptr A))) := by have h := hX.fr.own p (by omega); rw [frX_kids] at h; exact h
        have HXX := Lib.hid hX
        have HAP : Hid (A p ≠ w.heap.size + 1 ∧ (kv p).ownBlock ≠ some (w.heap.size + 1) ∧ (kv p).ownBlock ≠ some (A p) ∧ w.heap.size + 1 < w2.heap.size ∧ A p < w2.heap.size) := ⟨(hX.fr.far (by omega)).1, (hX.fr.far (by omega)).2, hX.fr.apart p p (by omega) (by omega), hX.row.lt, hX.fr.lt (by omega)⟩
        have i0 : (0 : Int) ≤ (p : Int) := by omega
        have i1 : (p : Int) < (t.ps.length : Int) := by omega
        have i2 : (0 : Int) ≤ (k : Int) := by omega
        have i3 : (k : Int) < (t.ps.length : Int) := by omega
        have HKL : Hid (((kidsK t.ps p k).map (nptr A)).length ≤ 1000000) := by unfold Hid; rw [List.length_map]; have := kidsK_len t.ps p k; omega
        have HPUSH : Hid (∀ g cap w', Owns (w.heap.size + 1 + 1) 145 w' (.slice (some ⟨g, 0, none⟩) (((kidsK t.ps p k).map (nptr A)).length + 1) cap) ((kidsK t.ps p k).map (nptr A) ++ [.pointer (some ⟨wo.heap.size, 0, none⟩)]) → w2.grownBy w' (kv p).ownBlock → ((kv p).ownBlock = some g ∨ w2.heap.size ≤ g) → NdW w1 (w'.setCell ⟨A p, 1, none⟩ (.slice (some ⟨g, 0, none⟩) (((kidsK t.ps p k).map (nptr A)).length + 1) cap)) (w.heap.size + 1) t.ps.length (k + 1) t) := fun g cap w' h1 h2 h3 => hX.push hpk HPP.out (by rw [HNK.out]; exact h1) h2 (fun b hb => by cases hb; exact h3)
        clear hAk hX HX hco hfo hcP hcN hc0 hc1
        generalize nptr A = na at *
        generalize hap : A p = ap at *
        generalize wo.heap.size = ak at *
        generalize kv p = ov at *
        generalize List.map na (kidsK t.ps p k) = vs at *
        have HOW2 : Hid (Owns (w.heap.size + 1 + 1) 145 (w2.alloc (.cells #[.pointer (some ⟨ak, 0, none⟩)] 145)).drew ov vs) := HOWN.out.alloc _
        have HCN : Hid ((w2.alloc (.cells #[.pointer (some ⟨ak, 0, none⟩)] 145)).drew.cell? ⟨w2.heap.size, 0, none⟩ = some (.pointer (some ⟨ak, 0, none⟩))) := cell_at_new _ _ _ 0
        have HBS : Hid (w.heap.size + 1 + 1 ≤ (w2.alloc (.cells #[.pointer (some ⟨ak, 0, none⟩)] 145)).drew.heap.size) := by
          have := HAP.out.2.2.2.1
          show _ ≤ (w2.alloc _).heap.size
          rw [World.size_alloc]; omega
        have HFAR : Hid (∀ (w' : World), (w2.alloc (.cells #[.pointer (some ⟨ak, 0, none⟩)] 145)).drew.grownBy w' ov.ownBlock → w'.cell? ⟨w.heap.size + 1, p, none⟩ = some (.pointer (some ⟨ap, 0, none⟩)) ∧ w'.cell? ⟨w.heap.size + 1, k, none⟩ = some (.pointer (some ⟨ak, 0, none⟩)) ∧ w'.cell? ⟨ap, 1, none⟩ = some ov ∧ w'.frozen? ⟨ap, 1, none⟩ = false) := fun w' hg => by
          obtain ⟨q1, q2, q3, q4, q5⟩ := HAP.out
          have hl : ∀ b, b < w2.heap.size → b < (w2.alloc (.cells #[.pointer (some ⟨ak, 0, none⟩)] 145)).drew.heap.size := fun b hb => by show b < (w2.alloc _).heap.size; rw [World.size_alloc]; omega
          have hu := Up.alloc w2 (.cells #[.pointer (some ⟨ak, 0, none⟩)] 145)
          refine ⟨?_, ?_, ?_, ?_⟩
          · rw [hg.cell_far _ (hl _ q4) (Ne.symm q2)]; exact hu.cell hr1
          · rw [hg.cell_far _ (hl _ q4) (Ne.symm q2)]; exact hu.cell hr2
          · rw [hg.cell_far _ (hl _ q5) (Ne.symm q3)]; exact hu.cell hkc
          · rw [hg.frozen_far _ (hl _ q5) (Ne.symm q3)]; exact (Below.frozen hu (p := ⟨ap, 1, none⟩) q5).trans hfz
        have hr1a := (Up.alloc w2 (.cells #[.pointer (some ⟨ak, 0, none⟩)] 145)).cell hr1
        have hr2a := (Up.alloc w2 (.cells #[.pointer (some ⟨ak, 0, none⟩)] 145)).cell hr2
        have hkca := (Up.alloc w2 (.cells #[.pointer (some ⟨ak, 0, none⟩)] 145)).cell hkc
        clear HXX
        refine region_T (by kernel_rfl) 20 (fun w' => w'.cell? ⟨w.heap.size + 1, p, none⟩ = some (.pointer (some ⟨ap, 0, none⟩)) ∧ w'.cell? ⟨w.heap.size + 1, k, none⟩ = some (.pointer (some ⟨ak, 0, none⟩)) ∧ w'.cell? ⟨ap, 1, none⟩ = some ov) ⟨hr1, hr2, hkc⟩ (fun hS => ?_)
        simp only [List.size_toArray, List.length_cons, List.length_nil, Nat.reduceAdd, Array.replicate_succ, Array.replicate_zero, List.push_toArray, List.nil_append, List.cons_append]
        refine anyT.take (i := 0) (v := ?gv0) rfl (by kernel_rfl) (fun _ _ _ h => h) (by rfl) (fun w hSw => ?gy0) hS ?gr0
        case gy0 =>
          (try dsimp only at hSw)
          go_simp
          try with_reducible rfl
        try simp only [Act.put, List.setIfInBounds_toArray, List.set_cons_zero, List.set_cons_succ]
        refine anyT.take (i := 1) (v := ?gv1) rfl (by kernel_rfl) (fun _ _ _ h => h) (by rfl) (fun w hSw => ?gy1) hS ?gr1
        case gy1 =>
          (try dsimp only at hSw)
          go_simp
          try with_reducible rfl
        try simp only [Act.put, List.setIfInBounds_toArray, List.set_cons_zero, List.set_cons_succ]
        refine anyT.take (i := 2) (v := ?gv2) rfl (by kernel_rfl) (fun _ _ _ h => h) (by rfl) (fun w hSw => ?gy2) hS ?gr2
        case gy2 =>
          (try dsimp only at hSw)
          go_simp
          try with_reducible rfl
        try simp only [Act.put, List.setIfInBounds_toArray, List.set_cons_zero, List.set_cons_succ]
        refine anyT.take (i := 3) (v := ?gv3) rfl (by kernel_rfl) (fun _ _ _ h => h) (by rfl) (fun w hSw => ?gy3) hS ?gr3
        case gy3 =>
          (try dsimp only at hSw)
          go_simp
          try with_reducible rfl
        try simp only [Act.put, List.setIfInBounds_toArray, List.set_cons_zero, List.set_cons_succ]
        refine anyT.take (i := 4) (v := ?gv4) rfl (by kernel_rfl) (fun _ _ _ h => h) (by rfl) (fun w hSw => ?gy4) hS ?gr4
        case gy4 =>
          (try dsimp only at hSw)
          go_simp
          try with_reducible rfl
        try simp only [Act.put, List.setIfInBounds_toArray, List.set_cons_zero, List.set_cons_succ]
        refine anyT.take (i := 5) (v := ?gv5) rfl (by kernel_rfl) (fun _ _ _ h => h) (by rfl) (fun w hSw => ?gy5) hS ?gr5
        case gy5 =>
          (try dsimp only at hSw)
          go_simp
          try with_reducible rfl
        try simp only [Act.put, List.setIfInBounds_toArray, List.set_cons_zero, List.set_cons_succ]
        refine anyT.take (i := 6) (v := ?gv6) rfl (by kernel_rfl) (fun _ _ _ h => h) (by rfl) (fun w hSw => ?gy6) hS ?gr6
        case gy6 =>
          (try dsimp only at hSw)
          go_simp
          try with_reducible rfl
        try simp only [Act.put, List.setIfInBounds_toArray, List.set_cons_zero, List.set_cons_succ]
        refine anyT.take (i := 7) (v := ?gv7) rfl (by kernel_rfl) (fun _ _ _ h => h) (by rfl) (fun w hSw => ?gy7) hS ?gr7
        case gy7 =>
          (try dsimp only at hSw)
          go_simp
          try with_reducible rfl
        try simp only [Act.put, List.setIfInBounds_toArray, List.set_cons_zero, List.set_cons_succ]
        refine anyT.take (i := 8) (v := ?gv8) rfl (by kernel_rfl) (fun _ _ _ h => h) (by rfl) (fun w hSw => ?gy8) hS ?gr8
        case gy8 =>
          (try dsimp only at hSw)
          go_simp
          try with_reducible rfl
        try simp only [Act.put, List.setIfInBounds_toArray, List.set_cons_zero, List.set_cons_succ]
        refine anyT.take (i := 9) (v := ?gv9) rfl (by kernel_rfl) (fun _ _ _ h => h) (by rfl) (fun w hSw => ?gy9) hS ?gr9
        case gy9 =>
          (try dsimp only at hSw)
          go_simp
          try with_reducible rfl
        try simp only [Act.put, List.setIfInBounds_toArray, List.set_cons_zero, List.set_cons_succ]
        refine anyT.take (i := 10) (v := ?gv10) rfl (by kernel_rfl) (fun _ _ _ h => h) (by rfl) (fun w hSw => ?gy10) hS ?gr10
        case gy10 =>
          (try dsimp only at hSw)
          go_simp
          try with_reducible rfl
        try simp only [Act.put, List.setIfInBounds_toArray, List.set_cons_zero, List.set_cons_succ]
        refine anyT.take (i := 11) (v := ?gv11) rfl (by kernel_rfl) (fun _ _ _ h => h) (by rfl) (fun w hSw => ?gy11) hS ?gr11
        case gy11 =>
          (try dsimp only at hSw)
          go_simp
          try with_reducible rfl
        try simp only [Act.put, List.setIfInBounds_toArray, List.set_cons_zero, List.set_cons_succ]
        refine anyT.take (i := 12) (v := ?gv12) rfl (by kernel_rfl) (fun _ _ _ h => h) (by rfl) (fun w hSw => ?gy12) hS ?gr12
        case gy12 =>
          (try dsimp only at hSw)
          go_simp
          try with_reducible rfl
        try simp only [Act.put, List.setIfInBounds_toArray, List.set_cons_zero, List.set_cons_succ]
        refine anyT.take (i := 13) (v := ?gv13) rfl (by kernel_rfl) (fun _ _ _ h => h) (by rfl) (fun w hSw => ?gy13) hS ?gr13
        case gy13 =>
          (try dsimp only at hSw)
          go_simp
          try with_reducible rfl
        try simp only [Act.put, List.setIfInBounds_toArray, List.set_cons_zero, List.set_cons_succ]
        refine anyT.take (i := 14) (v := ?gv14) rfl (by kernel_rfl) (fun _ _ _ h => h) (by rfl) (fun w hSw => ?gy14) hS ?gr14
        case gy14 =>
          (try dsimp only at hSw)
          go_simp
          try with_reducible rfl
        try simp only [Act.put, List.setIfInBounds_toArray, List.set_cons_zero, List.set_cons_succ]
        refine anyT.step (i := 15) rfl (by kernel_rfl) (fun K' hK => ?_)
        go_simp
        refine hK.out _ _ (fun _ => ⟨(Up.alloc _ _).cell hr1, (Up.alloc _ _).cell hr2, (Up.alloc _ _).cell hkc⟩) (fun hS => ?_)
        try simp only [List.setIfInBounds_toArray, List.set_cons_zero, List.set_cons_succ]
        refine anyT.step (i := 16) rfl (by kernel_rfl) (fun K' hK => ?_)
        refine step_app1 (by rfl) _ _ _ (by rfl) (w.heap.size + 1 + 1) 145 _ 8 Tryz.underlying143 Tryz.infoNP (by rfl) (by decide) (by rfl) HOW2.out (.pointer (some ⟨ak, 0, none⟩)) w2.heap.size (by rfl) HCN.out (by rfl) HKL.out HBS.out ?_
        intro g cap w4 hown4 hg4 hor4 hbe4
        obtain ⟨hr1b, hr2b, hkcb, hfz4⟩ := HFAR.out w4 hg4
        have HOWN4 := Lib.hid hown4
        have HG4 := Lib.hid (grown_alloc_drew hg4)
        have HOR4 := Lib.hid hor4
        clear hown4 hg4 hor4 hbe4
        refine hK.out _ _ (fun _ => ⟨hr1b, hr2b, hkcb⟩) (fun hS => ?_)
        replace hS := hS ⟨19, by decide, rfl⟩
        try simp only [Act.put, List.setIfInBounds_toArray, List.set_cons_zero, List.set_cons_succ]
        refine anyT.take (i := 17) (v := ?gv17) rfl (by kernel_rfl) (fun _ _ _ h => h) (by rfl) (fun w hSw => ?gy17) hS ?gr17
        case gy17 =>
          (try dsimp only at hSw)
          go_simp
          try with_reducible rfl
        try simp only [Act.put, List.setIfInBounds_toArray, List.set_cons_zero, List.set_cons_succ]
        refine anyT.take (i := 18) (v := ?gv18) rfl (by kernel_rfl) (fun _ _ _ h => h) (by rfl) (fun w hSw => ?gy18) hS ?gr18
        case gy18 =>
          (try dsimp only at hSw)
          go_simp
          try with_reducible rfl
        try simp only [Act.put, List.setIfInBounds_toArray, List.set_cons_zero, List.set_cons_succ]
        refine anyT.step (i := 19) rfl (by kernel_rfl) (fun K' hK => ?_)
        go_simp
        refine hK.out _ _ (not_more (by kernel_rfl)) (fun hS => ?_)
        refine anyT.done (by kernel_rfl) ?_
        go_wp2_with fail
        go_roundw
        case rel =>
          refine ⟨k + 1, by omega, by go_num, HPUSH.out g cap w4 HOWN4.out HG4.out ?_⟩
          rcases HOR4.out with h | h
          · exact .inl h
          · refine .inr ?_
            rw [h]; exact Nat.le_trans (Nat.le_succ _) (Nat.le_of_eq (World.size_alloc _ _).symm)
        case measure => simp [intOf]; omega
      · have HPP : Hid (gi t.ps k < 0) := by unfold Hid; omega
        have d1 : decide ((0 : Int) ≤ gi t.ps k) = false := by simpa using hp0
        clear h0 hp0
        go_wp2_with fail
        go_roundw
        case rel =>
          obtain ⟨A', kv', _, hX⟩ := HX.out
          exact ⟨k + 1, by omega, by go_num, hX.root HPP.out⟩
        case measure => simp [intOf]; omega
    · obtain rfl : k = t.ps.length := by omega
      go_wp2_with fail
      go_ret
      obtain ⟨hup, A, kv, hF, hrow⟩ := hO.out
      exact ⟨Below.trans HUW.out (hup.mono (Nat.le_succ _)), _, A, kv, Nat.le_succ _, rfl, hF, hrow.congr fun i hi => by rw [if_pos hi]⟩
end Go.Proofs.YtcbmbhghmfehpaaGreat
namespace Go.Proofs.YtcbmbhghmfehpaaGreat
open Go.RowKit Go.Deep
mutual
theorem txR_len {M : Nat} : ∀ r : RT, (∀ s ∈ nsR r, s.size ≤ M) → (txR r).length + 1 ≤ sizeR r * (M + 3)
  | .node nm [], h => by
    rw [txR, sizeR, sizeRs]
    have h1 := h nm (by rw [nsR]; simp)
    have h2 : nm.data.toList.length = nm.size := by rw [Array.length_toList]; rfl
    omega
  | .node nm (k :: ks), h => by
    have h1 := txR_len k (fun s hs => h s (by rw [nsR, nsRs]; simp [hs]))
    have h2 := txRs_len ks (fun s hs => h s (by rw [nsR, nsRs]; simp [hs]))
    rw [txR, sizeR, sizeRs]
    simp only [List.length_cons, List.length_append, List.length_nil]
    rw [Nat.add_mul, Nat.add_mul]
    omega
theorem txRs_len {M : Nat} : ∀ rs : List RT, (∀ s ∈ nsRs rs, s.size ≤ M) → (txRs rs).length ≤ sizeRs rs * (M + 3)
  | [], _ => by rw [txRs]; exact Nat.zero_le _
  | r :: rs, h => by
    have h1 := txR_len r (fun s hs => h s (by rw [nsRs]; simp [hs]))
    have h2 := txRs_len rs (fun s hs => h s (by rw [nsRs]; simp [hs]))
    rw [txRs, sizeRs]
    simp only [List.length_cons, List.length_append]
    rw [Nat.add_mul]
    omega
end
theorem nsR_toRF {F : Frs} {n : Nat} {rk : Nat → Nat} (h : Wf F n rk) {i : Nat} (hi : i < n) : nsR (toRF F rk i) = (nodesF F rk i).map F.nm := by
  rw [nsR_sub, subR_toRF h hi (Nat.le_refl _), List.map_map]
  refine List.map_congr_left fun z hz => ?_
  exact toRF_nm h (subF_lt h hi (Nat.le_refl _) ((mem_nodesF h hi (Nat.le_refl _)).1 hz))
theorem txT_len {t : Tre} (h : treeErr t = 0) {M : Nat} (hz : ∀ k, (gs t.ns k).size ≤ M) : (txR (toR t)).length + 1 ≤ 64 * (M + 3) := by
  obtain ⟨hp, hp64, _⟩ := treeErr_zero h
  have h1 := txR_len (M := M) (toR t) (fun s hs => by
    unfold toR at hs
    rw [nsR_toRF (frT_arb h).wf hp] at hs
    obtain ⟨z, _, rfl⟩ := List.mem_map.1 hs
    exact hz z)
  have h2 : sizeR (toR t) ≤ t.ps.length := good_size (frT_arb h).wf hp (good_toR h)
  exact Nat.le_trans h1 (Nat.mul_le_mul_right _ (by omega))
def txE (t : Tre) : Int := if treeErr t ≠ 0 then 1 else 0
def txT (t : Tre) : List UInt8 := if treeErr t ≠ 0 then [] else txR (toR t) ++ [59]
def TxPost (w : World) (t : Tre) (e : Ending) (w' : World) : Prop := Up w w' ∧ e = .returned (.tuple #[.string ⟨(txT t).toArray⟩, .int .i64 (txE t)])
set_option maxRecDepth 100000 in
set_option maxHeartbeats 4000000 in
theorem print_t (S : Nat → Prop) (w : World) (v : Value) (t : Tre) (hT : TreeAt S w v t) (hp : t.ps.length ≤ 1000000) (hn : t.ns.length ≤ 1000000) (hz : ∀ k, (gs t.ns k).size ≤ 70000) :
    Calls Tryz.prog 110 #[v] w (TxPost w t) := by
  obtain ⟨P, N, rfl, hP, hN⟩ := hT
  obtain ⟨pp, pc, rfl, _, _⟩ := SlAt.open hP
  obtain ⟨pn, pm, rfl, _, _⟩ := SlAt.open hN
  have hP : IntsAt S w (.slice pp t.ps.length pc) t.ps := hP
  have hN : StrsAt S w (.slice pn t.ns.length pm) t.ns := hN
  have ha := Up.alloc w (.cells #[.slice pp t.ps.length pc, .slice pn t.ns.length pm] 45)
  have HC0 := Lib.hid (box2_0 w (.slice pp t.ps.length pc) (.slice pn t.ns.length pm) 45)
  have HC1 := Lib.hid (box2_1 w (.slice pp t.ps.length pc) (.slice pn t.ns.length pm) 45)
  have hsz : (w.alloc (.cells #[.slice pp t.ps.length pc, .slice pn t.ns.length pm] 45)).heap.size = w.heap.size + 1 := by simp
  have HU := Lib.hid ha
  have HT1 : Hid (TreeAt S _ _ t) := TreeAt.keep ⟨_, _, rfl, hP, hN⟩ (ha.kept S)
  have HSZ := Lib.hid hsz
  have HZ := Lib.hid hz
  have hc0 := HC0.out
  have hc1 := HC1.out
  have HCK := Lib.hid (check_t S _ _ t HT1.out hp hn hz)
  have HXE : Hid (txE t = if treeErr t ≠ 0 then 1 else 0) := rfl
  have HXT : Hid (txT t = if treeErr t ≠ 0 then [] else txR (toR t) ++ [59]) := rfl
  clear ha hP hN hsz hz
  go_enter Tryz.func110, Tryz.ntmps110
  go_wp2_with fail
  generalize w.alloc (.cells #[.slice pp t.ps.length pc, .slice pn t.ns.length pm] 45) = w1 at *
  refine HCK.out.mono ?_
  rintro e w2 ⟨rfl, hu2⟩
  have hu2 : Up w1 w2 := hu2
  have HU2 := Lib.hid hu2
  have HUW := Lib.hid (HU.out.trans hu2)
  have hc0 := hu2.cell HC0.out
  have hc1 := hu2.cell HC1.out
  clear hu2 HCK
  by_cases he : treeErr t = 0
  · obtain ⟨hp0, hp64, hnl, hok, _⟩ := treeErr_zero he
    have HTE := Lib.hid he
    rw [he]
    have HT2 := Lib.hid (TreeAt.keep HT1.out (HU2.out.kept S))
    clear he hnl hok
    go_wp2_with fail
    have hb := blk_alloc_new w2 (.cells #[.pointer none, .slice none 0 0] 190)
    have hu3 := Up.alloc w2 (.cells #[.pointer none, .slice none 0 0] 190)
    have hs3 : (w2.alloc (.cells #[.pointer none, .slice none 0 0] 190)).heap.size = w2.heap.size + 1 := World.size_alloc _ _
    have hfb := blk_alloc_new (w2.alloc (.cells #[.pointer none, .slice none 0 0] 190)) (.cells #[.func (.func 174) #[] #[.pointer (some ⟨w2.heap.size, 0, none⟩), .pointer (some ⟨w2.heap.size + 1, 0, none⟩)]] 191)
    have hu4 := Up.alloc (w2.alloc (.cells #[.pointer none, .slice none 0 0] 190)) (.cells #[.func (.func 174) #[] #[.pointer (some ⟨w2.heap.size, 0, none⟩), .pointer (some ⟨w2.heap.size + 1, 0, none⟩)]] 191)
    have hs4 : ((w2.alloc (.cells #[.pointer none, .slice none 0 0] 190)).alloc (.cells #[.func (.func 174) #[] #[.pointer (some ⟨w2.heap.size, 0, none⟩), .pointer (some ⟨w2.heap.size + 1, 0, none⟩)]] 191)).heap.size = w2.heap.size + 2 := by rw [World.size_alloc, hs3]
    have hb4 := (blk_alloc_lt (w2.alloc (.cells #[.pointer none, .slice none 0 0] 190)) (.cells #[.func (.func 174) #[] #[.pointer (some ⟨w2.heap.size, 0, none⟩), .pointer (some ⟨w2.heap.size + 1, 0, none⟩)]] 191) w2.heap.size (by omega)).trans hb
    rw [hs3] at hfb
    have hc04 := (hu3.trans hu4).cell hc0
    have hc14 := (hu3.trans hu4).cell hc1
    have HU4 := Lib.hid (hu3.trans hu4)
    clear hb hu3 hu4 hs3 hc0 hc1
    generalize (w2.alloc (.cells #[.pointer none, .slice none 0 0] 190)).alloc (.cells #[.func (.func 174) #[] #[.pointer (some ⟨w2.heap.size, 0, none⟩), .pointer (some ⟨w2.heap.size + 1, 0, none⟩)]] 191) = w4 at *
    have HBX : Hid (PrBox w2.heap.size (w2.heap.size + 1) w4) := hfb
    have hfc := HBX.out.cell
    have HB4 := Lib.hid hb4
    have HS4 := Lib.hid hs4
    clear hs4 hb4 hfb
    refine region_T (by kernel_rfl) 6 (fun w' => w'.cell? ⟨w2.heap.size + 1, 0, none⟩ = some (.func (.func 174) #[] #[.pointer (some ⟨w2.heap.size, 0, none⟩), .pointer (some ⟨w2.heap.size + 1, 0, none⟩)]) ∧ w'.cell? ⟨w.heap.size, 0, none⟩ = some (.slice pp t.ps.length pc) ∧ w'.cell? ⟨w.heap.size, 1, none⟩ = some (.slice pn t.ns.length pm)) ⟨hfc, hc04, hc14⟩ (fun hS => ?_)
    simp only [List.size_toArray, List.length_cons, List.length_nil, Nat.reduceAdd, Array.replicate_succ, Array.replicate_zero, List.push_toArray, List.nil_append, List.cons_append]
    refine anyT.take (i := 0) (v := ?gv0k1) rfl (by kernel_rfl) (fun _ _ _ h => h) (by rfl) (fun w hSw => ?gy0k1) hS ?gr0k1
    case gy0k1 =>
      (try dsimp only at hSw)
      go_simp
      try with_reducible rfl
    try simp only [Act.put, List.setIfInBounds_toArray, List.set_cons_zero, List.set_cons_succ]
    refine anyT.take (i := 1) (v := ?gv1k1) rfl (by kernel_rfl) (fun _ _ _ h => h) (by rfl) (fun w hSw => ?gy1k1) hS ?gr1k1
    case gy1k1 =>
      (try dsimp only at hSw)
      go_simp
      try with_reducible rfl
    try simp only [Act.put, List.setIfInBounds_toArray, List.set_cons_zero, List.set_cons_succ]
    refine anyT.step (i := 2) rfl (by kernel_rfl) (fun K' hK => ?_)
    go_simp
    have HUD : Hid (Up w4 w4.drew) := Up.drewN w4 1
    obtain ⟨_, _, hnl, hok, _⟩ := treeErr_zero HTE.out
    have HND := Lib.hid (nodes2_t S w4.drew _ t (TreeAt.keep HT2.out ((HU4.out.trans HUD.out).kept S)) (by omega) hnl hok HZ.out)
    refine HND.out.mono ?_
    rintro e w5 ⟨hu5, g, A, kv, hgl, rfl, hF, hrow⟩
    have hr0 := hrow.cell (i := 0) hp0
    simp only [nptr] at hr0
    have HU5 := Lib.hid (HUD.out.trans hu5)
    have hpos : (0 : Int) < (t.ps.length : Int) := by omega
    refine hK.out _ _ (fun _ => ⟨HU5.out.cell hfc, HU5.out.cell hc04, HU5.out.cell hc14⟩) (fun hS => ?_)
    try simp only [List.setIfInBounds_toArray, List.set_cons_zero, List.set_cons_succ]
    have HF := Lib.hid hF
    have HGL := Lib.hid hgl
    have HX1 : Hid (txE t = 0) := by rw [Hid, HXE.out, if_neg (by simp [HTE.out])]
    have HX2 : Hid (txT t = txR (toR t) ++ [59]) := by rw [Hid, HXT.out, if_neg (by simp [HTE.out])]
    have HLN := Lib.hid (txT_len HTE.out HZ.out)
    have HBL : Hid (Lib.IsBuilderF 190 5 w2.heap.size w2.heap.size (Lib.byteCells []) w5) := .inl ⟨Nat.le_refl _, _, (Below.block HU5.out _ (by rw [HS4.out]; omega)).trans HB4.out, ⟨rfl, .inl ⟨rfl, rfl⟩⟩, fun e => by cases e⟩
    have HBX5 : Hid (PrBox w2.heap.size (w2.heap.size + 1) w5) := (Below.block HU5.out _ (by rw [HS4.out]; omega)).trans HBX.out
    have HSB : Hid (w2.heap.size + 2 ≤ w5.heap.size) := by have := HU5.out.size; rw [HS4.out] at this; exact this
    have HP1 := Lib.hid (print1_t (base := g + 1) (n := t.ps.length) (B := w2.heap.size) (b := w2.heap.size) (fb := w2.heap.size + 1) (frT_arb HTE.out).wf (fun z _ => by have := frT_kids_len t z; omega) (by have := HS4.out; have h2 : w4.heap.size ≤ g := hgl; omega) (by omega) (rkT t 0) 0 [] w5 hp0 (Nat.le_refl _) hF HBX5.out HBL.out (by
      have := HLN.out
      show 0 + (txR (toR t)).length ≤ _
      omega) (by have := HSB.out; omega))
    clear hnl hok hF hgl hrow HND hu5
    refine anyT.step (i := 3) rfl (by kernel_rfl) (fun K' hK => ?_)
    go_simp
    refine hK.out _ _ (fun _ => ⟨HU5.out.cell hfc, HU5.out.cell hc04, HU5.out.cell hc14⟩) (fun hS => ?_)
    try simp only [List.setIfInBounds_toArray, List.set_cons_zero, List.set_cons_succ]
    refine anyT.step (i := 4) rfl (by kernel_rfl) (fun K' hK => ?_)
    go_simp
    refine hK.out _ _ (fun _ => ⟨HU5.out.cell hfc, HU5.out.cell hc04, HU5.out.cell hc14⟩) (fun hS => ?_)
    try simp only [List.setIfInBounds_toArray, List.set_cons_zero, List.set_cons_succ]
    refine anyT.step (i := 5) rfl (by kernel_rfl) (fun K' hK => ?_)
    go_simp
    refine HP1.out.mono ?_
    rintro e w6 ⟨rfl, h6⟩
    refine hK.out _ _ (not_more (by kernel_rfl)) (fun hS => ?_)
    refine anyT.done (by kernel_rfl) ?_
    have HX3 : Hid (toRF (frT t) (rkT t) 0 = toR t) := rfl
    rw [List.nil_append, HX3.out] at h6
    have HB6 := Lib.hid h6
    have HWB := Lib.hid (wbyte_t w2.heap.size w2.heap.size (Lib.byteCells (txR (toR t))) 59 w6 h6.bl (by rw [Lib.byteCells_length]; have := HLN.out; omega) (h6.size (by have := HSB.out; omega)))
    clear h6 HP1 hS hK
    go_wp2_with fail
    refine HWB.out.mono ?_
    rintro e w7 ⟨rfl, h1, h2, h3⟩
    have HB7 := Lib.hid (HB6.out.byte (x := 59) rfl h1 h2 h3)
    have HST := Lib.hid (bstr_t w2.heap.size w2.heap.size (txR (toR t) ++ [59]) w7 HB7.out.bl (HB7.out.size (by have := HSB.out; omega)))
    clear h1 h2 h3
    go_wp2_with fail
    refine HST.out.mono ?_
    rintro e w8 ⟨rfl, _, h2, _⟩
    have HB8 : Hid (Up w2 w8) := Below.trans (HU4.out.trans HU5.out) (HB7.out.up.trans h2)
    clear h2
    go_wp2_with fail
    go_ret2
    exact ⟨HUW.out.trans HB8.out, by rw [HX1.out, HX2.out]; rfl⟩
  · have he1 : (treeErr t != 0) = true := by simpa using he
    have HX1 : Hid (txE t = 1) := by rw [Hid, HXE.out, if_pos he]
    have HX2 : Hid (txT t = []) := by rw [Hid, HXT.out, if_pos he]
    clear he
    generalize treeErr t = te at *
    go_wp2_with fail
    go_ret2
    exact ⟨HUW.out, by rw [HX1.out, HX2.out]; rfl⟩
end Go.Proofs.YtcbmbhghmfehpaaGreat
namespace Go.Proofs.YtcbmbhghmfehpaaGreat
theorem aln_sp {c : UInt8} (h : aln c = true) : c ∉ sp4 := fun hm => by
  simp only [sp4, List.mem_cons, List.not_mem_nil, or_false] at hm
  rcases hm with rfl | rfl | rfl | rfl <;> exact absurd h (by decide)
theorem named_sp {s : ByteArray} (h : namedB s.data.toList = true) : s.data.toList ≠ [] ∧ ∀ c ∈ s.data.toList, c ∉ sp4 := by
  generalize s.data.toList = l at h ⊢
  unfold namedB at h
  have key : ∀ l : List UInt8, isNameB l = true → l ≠ [] ∧ ∀ c ∈ l, c ∉ sp4 := fun l h => by
    unfold isNameB at h
    simp only [Bool.and_eq_true, decide_eq_true_eq, List.all_eq_true] at h
    exact ⟨fun e => by rw [e] at h; simp at h, fun c hc => aln_sp (h.2 c hc)⟩
  by_cases e : l.getLast? = some 42
  · rw [if_pos e] at h
    simp only [Bool.and_eq_true] at h
    obtain ⟨h1, h2⟩ := key _ h.1
    have hl : l ≠ [] := fun e2 => by subst e2; cases e
    refine ⟨hl, fun c hc => ?_⟩
    rw [← List.dropLast_concat_getLast hl, List.mem_append, List.mem_singleton] at hc
    rcases hc with hc | hc
    · exact h2 c hc
    · rw [List.getLast?_eq_some_getLast hl] at e
      have e := Option.some.inj e
      rw [hc, e]; decide
  · rw [if_neg e] at h; exact key l h
theorem GoodR.okp {r : RT} (h : GoodR r) : OkP r := fun s hs => ⟨h.inn s hs, fun hk => named_sp (h.lf s hs hk)⟩
section
variable {t : Tre}
theorem hit_all0 (h : treeErr t = 0) : ∀ (d j : Nat), j ≤ d → j < t.ps.length → hitB t.ps 0 j = true
  | d, j, hd, hj => by
    by_cases h0 : j = 0
    · subst h0; exact hit_self 0
    · obtain ⟨_, _, _, hok, _⟩ := treeErr_zero h
      have hp := pOkB_par hok hj (by omega)
      rw [hit_step hok hj (by omega)]
      cases d with
      | zero => omega
      | succ d => exact hit_all0 h d _ (by omega) (by omega)
theorem nodes_perm (h : treeErr t = 0) : (nodesF (frT t) (rkT t) 0).Perm (List.range t.ps.length) := by
  have h0 := (treeErr_zero h).1
  refine (List.perm_ext_iff_of_nodup (nodesF_nodup (frT_arb h) (fun i _ => rkT_le t i) h0 (Nat.le_refl _)) List.nodup_range).2 fun j => ?_
  rw [List.mem_range]
  constructor
  · exact mem_nodes_lt h
  · intro hj
    refine (mem_nodesF (frT_arb h).wf h0 (Nat.le_refl _)).2 ?_
    rw [sub_hit h _ 0 j (Nat.le_refl _) h0 hj]
    exact hit_all0 h j j (Nat.le_refl _) hj
theorem ns_perm (h : treeErr t = 0) : (nsR (toR t)).Perm t.ns := by
  rw [nsR_toR h]
  have hl := (treeErr_zero h).2.2.1
  have h1 := (nodes_perm h).map (gs t.ns)
  rw [← hl, range_gs] at h1
  exact h1
theorem leafs_perm (h : treeErr t = 0) : (leafR (toR t)).Perm (fltN t.ns) := (ns_perm h).filter _
theorem can_names (h : treeErr t = 0) : (fltN (canT t).ns).Perm (fltN t.ns) := by
  rw [canT_flat h]
  exact (leafR_sort (toR t)).trans (leafs_perm h)
theorem leaf_one31 {nm : ByteArray} (h : nm.size ≠ 0) : leafR (.node nm []) = [nm] := by
  unfold leafR
  rw [nsR, nsRs]
  exact List.filter_eq_self.2 fun x hx => decide_eq_true (by rw [List.mem_singleton.1 hx]; exact h)
/-- The leaf that is met first. -/
theorem leaf_head : ∀ (r : RT), (∀ s ∈ subR r, s.kids ≠ [] → s.nm.size = 0) → (∀ s ∈ subR r, s.kids = [] → s.nm.size ≠ 0) → ∃ l, leafR r = firstR r :: l
  | .node nm [], _, h2 => ⟨[], by
    have h := h2 (.node nm []) (by rw [subR]; exact List.mem_cons_self) rfl
    rw [leaf_one31 (nm := nm) h, firstR]⟩
  | .node nm (k :: ks), h1, h2 => by
    have h0 : nm.size = 0 := h1 (.node nm (k :: ks)) (by rw [subR]; exact List.mem_cons_self) (by simp [RT.kids])
    have hk : ∀ s ∈ subR k, s ∈ subR (.node nm (k :: ks)) := fun s hs => by rw [subR, subRs]; simp [hs]
    obtain ⟨l, hl⟩ := leaf_head k (fun s hs => h1 s (hk s hs)) (fun s hs => h2 s (hk s hs))
    rw [leafR_node h0, List.flatMap_cons, hl, firstR]
    exact ⟨_, rfl⟩
theorem GoodR.head {r : RT} (h : GoodR r) : ∃ l, leafR r = firstR r :: l := leaf_head r h.inn fun s hs hk => named_size (h.lf s hs hk)
end
theorem GoodR.kid {nm : ByteArray} {ks : List RT} (h : GoodR (.node nm ks)) {k : RT} (hk : k ∈ ks) : GoodR k := by
  have hs : ∀ s ∈ subR k, s ∈ subR (.node nm ks) := fun s hs => by rw [subR, subRs_flat]; exact List.mem_cons_of_mem _ (List.mem_flatMap.2 ⟨k, hk, hs⟩)
  exact ⟨fun s h1 => h.inn s (hs s h1), fun s h1 => h.lf s (hs s h1), (leafR_sub (hs k (subR_self k))).nodup h.nd⟩
end Go.Proofs.YtcbmbhghmfehpaaGreat
namespace Go.Proofs.YtcbmbhghmfehpaaGreat
theorem leaf_reach {F : Frs} {n : Nat} {rk : Nat → Nat} (h : Wf F n rk) {z : Nat} (hz : z < n) {x : ByteArray} : x ∈ leafR (toRF F rk z) ↔ ∃ j, j < n ∧ subF F rk z j = true ∧ (F.nm j).size ≠ 0 ∧ x = F.nm j := by
  unfold leafR
  rw [nsR_toRF h hz, List.mem_filter, List.mem_map]
  constructor
  · rintro ⟨⟨j, hj, rfl⟩, h0⟩
    have hs := (mem_nodesF h hz (Nat.le_refl _)).1 hj
    exact ⟨j, subF_lt h hz (Nat.le_refl _) hs, hs, of_decide_eq_true h0, rfl⟩
  · rintro ⟨j, _, hs, h0, rfl⟩
    exact ⟨⟨j, (mem_nodesF h hz (Nat.le_refl _)).2 hs, rfl⟩, decide_eq_true h0⟩
section
variable {t : Tre} {leaf : Nat}
theorem und_iff (h : treeErr t = 0) {z : Nat} (hz : z < t.ps.length) {x : ByteArray} : x ∈ leafR (toRF (frT t) (rkT t) z) ↔ ∃ j, j < t.ps.length ∧ hitB t.ps z j = true ∧ (gs t.ns j).size ≠ 0 ∧ x = gs t.ns j := by
  rw [leaf_reach (frT_arb h).wf hz]
  constructor
  · rintro ⟨j, hj, hs, h0, e⟩
    exact ⟨j, hj, by rw [← sub_hit h _ z j (Nat.le_refl _) hz hj]; exact hs, h0, e⟩
  · rintro ⟨j, hj, hs, h0, e⟩
    exact ⟨j, hj, by rw [sub_hit h _ z j (Nat.le_refl _) hz hj]; exact hs, h0, e⟩
theorem LeafOk.inj (h : LeafOk t leaf) {a b : Nat} (ha : a < t.ps.length) (hb : b < t.ps.length) (h0 : (gs t.ns a).size ≠ 0) (e : gs t.ns a = gs t.ns b) : a = b := by
  have ea : (rrF t leaf).nm a = gs t.ns a := upd_ne _ _ (by omega)
  have eb : (rrF t leaf).nm b = gs t.ns b := upd_ne _ _ (by omega)
  exact rr_names h a b (by omega) (by omega) (by rw [ea]; exact h0) (by rw [ea, eb]; exact e)
end
end Go.Proofs.YtcbmbhghmfehpaaGreat
namespace Go.Proofs.YtcbmbhghmfehpaaGreat
open Go.RowKit Go.Deep
end Go.Proofs.YtcbmbhghmfehpaaGreat
namespace Go.Proofs.YtcbmbhghmfehpaaGreat
open Go.RowKit Go.Deep
def t3 : Tre := ⟨[-1, 0, 1, 1, 0], [⟨#[]⟩, ⟨#[]⟩, ⟨#[65]⟩, ⟨#[66]⟩, ⟨#[67]⟩]⟩
def s3 : List Int := [0, 1, 1]
theorem lit_ints (w : World) (cs : Array Value) (T : TypeId) (xs : List Int) (hcs : cs.toList = xs.map (Value.int .i64)) (n : Nat) (hn : n = xs.length) : IntsAt Any (w.alloc (.cells cs T)) (.slice (some ⟨w.heap.size, 0, none⟩) n n) xs := by
  subst hn
  refine ⟨_, _, rfl, Nat.le_refl _, .inr ⟨_, 0, rfl, trivial, fun k hk => ?_⟩⟩
  rw [Nat.zero_add, cell_at_new, ← Array.getElem?_toList, hcs]
  simp [gi, hk]
theorem lit_strs (w : World) (cs : Array Value) (T : TypeId) (xs : List ByteArray) (hcs : cs.toList = xs.map Value.string) (n : Nat) (hn : n = xs.length) : StrsAt Any (w.alloc (.cells cs T)) (.slice (some ⟨w.heap.size, 0, none⟩) n n) xs := by
  subst hn
  refine ⟨_, _, rfl, Nat.le_refl _, .inr ⟨_, 0, rfl, trivial, fun k hk => ?_⟩⟩
  rw [Nat.zero_add, cell_at_new, ← Array.getElem?_toList, hcs]
  simp [gs, hk]
end Go.Proofs.YtcbmbhghmfehpaaGreat
namespace Go.Proofs.YtcbmbhghmfehpaaGreat
open Go.RowKit Go.Deep
deriving instance DecidableEq for Grp
end Go.Proofs.YtcbmbhghmfehpaaGreat
namespace Go.Proofs.YtcbmbhghmfehpaaGreat
open Go.RowKit Go.Deep
end Go.Proofs.YtcbmbhghmfehpaaGreat
namespace Go.Proofs.YtcbmbhghmfehpaaGreat
open Go.RowKit Go.Deep
end Go.Proofs.YtcbmbhghmfehpaaGreat
namespace Go.Proofs.YtcbmbhghmfehpaaGreat
open Go.RowKit Go.Deep
end Go.Proofs.YtcbmbhghmfehpaaGreat
namespace Go.Proofs.YtcbmbhghmfehpaaGreat
open Go.RowKit Go.Deep
end Go.Proofs.YtcbmbhghmfehpaaGreat
namespace Go.Proofs.YtcbmbhghmfehpaaGreat
open Go.RowKit Go.Deep
end Go.Proofs.YtcbmbhghmfehpaaGreat
namespace Go.Proofs.YtcbmbhghmfehpaaGreat
open Go.RowKit Go.Deep
end Go.Proofs.YtcbmbhghmfehpaaGreat
