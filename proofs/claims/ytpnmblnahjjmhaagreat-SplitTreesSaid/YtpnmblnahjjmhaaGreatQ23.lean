/- phylotree.nodes again: the row of nodes lies apart from the forest. The walk of .. -/
import Derived.Test.YtpnmblnahjjmhaaGreatQ1
import Derived.Test.YtpnmblnahjjmhaaGreatQ6
import Derived.Test.YtpnmblnahjjmhaaGreatQ21
import Derived.Test.YtpnmblnahjjmhaaGreatQ22
set_option maxRecDepth 100000
namespace Go.Proofs.YtpnmblnahjjmhaaGreat
section
open Go.RowKit Go.Deep
def Mo (w : World) (t : aA) (e : Ending) (w' : World) : Prop :=
 Up w w' ∧ ∃ g A kv, w.heap.size ≤ g ∧ e = .returned (.slice (some ⟨g, 0, none⟩) t.ps.length t.ps.length) ∧ bB (g + 1) t.ps.length A kv (cF t) w' ∧ w'.rowIs g 137 t.ps.length (bC A)
set_option maxHeartbeats 2000000 in
theorem Sq (S : Nat → Prop) (w : World) (v : Value) (t : aA) (hT : aG S w v t) (hp : t.ps.length ≤ 1000) (hn : t.ns.length = t.ps.length) (hok : fK t.ps = true) (hz : ∀ k, (gs t.ns k).size ≤ 70000) :
  Calls Tryz.prog 129 #[v] w (Mo w t) := by
 obtain ⟨P, N, rfl, hP, hN⟩ := hT
 obtain ⟨pP, ig, rfl, hcapP, _⟩ := av.open hP
 have hP : af S w (.slice pP t.ps.length ig) t.ps := hP
 obtain ⟨pN, ij, rfl, hcapN, _⟩ := av.open hN
 have hN : ay S w (.slice pN t.ns.length ij) t.ns := hN
 have hmk := fun W => run_make_row' (P := Tryz.prog) 138 137 (.pointer none) 8 Tryz.underlying138 Tryz.rC rfl .i64 .i64 t.ps.length (by omega) (by omega) W
 have hu := Up.alloc w (.cells #[.slice pP t.ps.length ig, .slice pN t.ns.length ij] 39)
 have hb0 := cB w (.slice pP t.ps.length ig) (.slice pN t.ns.length ij) 39
 have hb1 := cI w (.slice pP t.ps.length ig) (.slice pN t.ns.length ij) 39
 have aC := Up.alloc (w.alloc (.cells #[.slice pP t.ps.length ig, .slice pN t.ns.length ij] 39)) (.cells (madeCells #[.pointer none] t.ps.length) 137)
 have HW : Hid (zj ((w.alloc (.cells #[.slice pP t.ps.length ig, .slice pN t.ns.length ij] 39)).alloc (.cells (madeCells #[.pointer none] t.ps.length) 137)) ((w.alloc (.cells #[.slice pP t.ps.length ig, .slice pN t.ns.length ij] 39)).alloc (.cells (madeCells #[.pointer none] t.ps.length) 137)) (w.heap.size + 1) t.ps.length 0 t) := by
  refine ⟨Below.refl _ _, fun _ => 0, fun _ => .slice none 0 0, bB.empty _ _ _ _ _, ?_⟩
  have h := World.rowIs_made (w.alloc (.cells #[.slice pP t.ps.length ig, .slice pN t.ns.length ij] 39)) (.pointer none) t.ps.length 137
  simp only [World.size_alloc] at h
  exact h
 have gR := aa (hu.trans aC)
 have hsz : w.heap.size + 1 + 1 = ((w.alloc (.cells #[.slice pP t.ps.length ig, .slice pN t.ns.length ij] 39)).alloc (.cells (madeCells #[.pointer none] t.ps.length) 137)).heap.size := by simp
 have cO := aa hsz
 have gm := aa (aC.cell hb0)
 have gz := aa (aC.cell hb1)
 have HP := aa hP
 have HN := aa hN
 have xd := aa hz
 have fI := aa hok
 have iD := aa hn
 have hnl : (t.ps.length : Int) ≤ (t.ns.length : Int) := by omega
 clear hsz hu hb0 hb1 aC hP hN hz hok hn
 go_enter Tryz.func129, Tryz.ntmps129
 go_wp2_with fail
 generalize (w.alloc (.cells #[.slice pP t.ps.length ig, .slice pN t.ns.length ij] 39)).alloc (.cells (madeCells #[.pointer none] t.ps.length) 137) = w1 at *
 go_loopw [13] (fun i wr => ∃ k : Nat, k ≤ t.ps.length ∧ i = .int .i64 k ∧ Hid (zj w1 wr (w.heap.size + 1) t.ps.length k t)) (fun i _ => t.ps.length - (intOf i).toNat)
 case atStart => exact ⟨0, Nat.zero_le _, rfl, HW⟩
 case round =>
  obtain ⟨k, hk, rfl, hO⟩ := hrel
  obtain ⟨wo, rfl⟩ : ∃ wo : World, wo = wr := ⟨_, rfl⟩
  by_cases hlt : k < t.ps.length
  ·obtain ⟨aW, A, kv, hF, hrow⟩ := hO.out
   have hc0 : wo.cell? ⟨w.heap.size, 0, none⟩ = some (.slice pP t.ps.length ig) := by rw [aW.cell (p := ⟨w.heap.size, 0, none⟩) (Nat.lt_succ_self _)]; exact gm.out
   have hc1 : wo.cell? ⟨w.heap.size, 1, none⟩ = some (.slice pN t.ns.length ij) := by rw [aW.cell (p := ⟨w.heap.size, 1, none⟩) (Nat.lt_succ_self _)]; exact gz.out
   have Fy : Up w wo := Below.trans gR.out (aW.mono (Nat.le_succ _))
   obtain ⟨bP, oP, rfl, mM⟩ := bw (af.keep HP.out (Fy.kept S)) hlt
   obtain ⟨bN, oN, rfl, og⟩ := cC (ay.keep HN.out (Fy.kept S)) (k := k) (by rw [iD.out]; exact hlt)
   have HX := aa hO.out.new
   have Wz : (wo.alloc (.cells #[.string (gs t.ns k), .slice none 0 0, .int .i64 k] 140)).cell? ⟨w.heap.size + 1, k, none⟩ = some (.pointer none) := by
    have h := (hrow.alloc (.cells #[.string (gs t.ns k), .slice none 0 0, .int .i64 k] 140)).cell hlt
    rw [h, if_neg (Nat.lt_irrefl k)]
   have hfo : (wo.alloc (.cells #[.string (gs t.ns k), .slice none 0 0, .int .i64 k] 140)).frozen? ⟨w.heap.size + 1, k, none⟩ = false := (hrow.alloc _).frozen k
   clear hF hrow aW Fy hO
   have h0 : gi t.ps k < k ∧ (0 < k → 0 ≤ gi t.ps k) ∧ (k = 0 → gi t.ps k = -1) := Nx fI.out hlt
   by_cases nj : 0 ≤ gi t.ps k
   ·obtain ⟨p, Fz⟩ := Int.eq_ofNat_of_zero_le nj
    have hpk : p < k := by omega
    rw [Fz] at mM
    have d1 : decide ((0 : Int) ≤ (p : Int)) = true := by simp
    have zk := aa Fz
    clear h0 nj Fz
    go_wp2_with fail
    generalize (wo.alloc (.cells #[.string (gs t.ns k), .slice none 0 0, .int .i64 k] 140)).setCell ⟨w.heap.size + 1, k, none⟩ (.pointer (some ⟨wo.heap.size, 0, none⟩)) = w2 at *
    obtain ⟨A, kv, hAk, hX⟩ := HX.out
    have hr1 : w2.cell? ⟨w.heap.size + 1, p, none⟩ = some (.pointer (some ⟨A p, 0, none⟩)) := by
     have h := hX.row.cell (i := p) (by omega)
     rw [if_pos (by omega)] at h; exact h
    have hr2 : w2.cell? ⟨w.heap.size + 1, k, none⟩ = some (.pointer (some ⟨A k, 0, none⟩)) := by
     have h := hX.row.cell (i := k) hlt
     rw [if_pos (by omega)] at h; exact h
    have WA : Hid (bC A k = .pointer (some ⟨wo.heap.size, 0, none⟩)) := by unfold Hid bC; rw [hAk]
    rw [hAk] at hr2
    have hkc := hX.fr.pZ (i := p) (by omega)
    have hfz := hX.fr.thaw (i := p) (by omega) 1
    have uV : Hid (ah (w.heap.size + 1 + 1) 137 w2 (kv p) ((bG t.ps p k).map (bC A))) := by have h := hX.fr.own p (by omega); rw [oz] at h; exact h
    have zg := aa hX
    have FA : Hid (A p ≠ w.heap.size + 1 ∧ (kv p).ownBlock ≠ some (w.heap.size + 1) ∧ (kv p).ownBlock ≠ some (A p) ∧ w.heap.size + 1 < w2.heap.size ∧ A p < w2.heap.size) := ⟨(hX.fr.far (by omega)).1, (hX.fr.far (by omega)).2, hX.fr.apart p p (by omega) (by omega), hX.row.lt, hX.fr.lt (by omega)⟩
    have i0 : (0 : Int) ≤ (p : Int) := by omega
    have i1 : (p : Int) < (t.ps.length : Int) := by omega
    have i2 : (0 : Int) ≤ (k : Int) := by omega
    have i3 : (k : Int) < (t.ps.length : Int) := by omega
    have kn : Hid (((bG t.ps p k).map (bC A)).length ≤ 1000000) := by unfold Hid; rw [List.length_map]; have := o9 t.ps p k; omega
    have A4 : Hid (∀ g cap w', ah (w.heap.size + 1 + 1) 137 w' (.slice (some ⟨g, 0, none⟩) (((bG t.ps p k).map (bC A)).length + 1) cap) ((bG t.ps p k).map (bC A) ++ [.pointer (some ⟨wo.heap.size, 0, none⟩)]) → w2.grownBy w' (kv p).ownBlock → ((kv p).ownBlock = some g ∨ w2.heap.size ≤ g) → zj w1 (w'.setCell ⟨A p, 1, none⟩ (.slice (some ⟨g, 0, none⟩) (((bG t.ps p k).map (bC A)).length + 1) cap)) (w.heap.size + 1) t.ps.length (k + 1) t) := fun g cap w' h1 h2 h3 => hX.push hpk zk.out (by rw [WA.out]; exact h1) h2 (fun b hb => by cases hb; exact h3)
    clear hAk hX HX Wz hfo mM og hc0 hc1
    generalize bC A = na at *
    generalize hap : A p = ap at *
    generalize wo.heap.size = ak at *
    generalize kv p = ov at *
    generalize List.map na (bG t.ps p k) = vs at *
    have Rh : Hid (ah (w.heap.size + 1 + 1) 137 (w2.alloc (.cells #[.pointer (some ⟨ak, 0, none⟩)] 137)).drew ov vs) := uV.out.alloc _
    have jd : Hid ((w2.alloc (.cells #[.pointer (some ⟨ak, 0, none⟩)] 137)).drew.cell? ⟨w2.heap.size, 0, none⟩ = some (.pointer (some ⟨ak, 0, none⟩))) := bf _ _ _ 0
    have zl : Hid (w.heap.size + 1 + 1 ≤ (w2.alloc (.cells #[.pointer (some ⟨ak, 0, none⟩)] 137)).drew.heap.size) := by
     have := FA.out.2.2.2.1
     show _ ≤ (w2.alloc _).heap.size
     rw [World.size_alloc]; omega
    have FB : Hid (∀ (w' : World), (w2.alloc (.cells #[.pointer (some ⟨ak, 0, none⟩)] 137)).drew.grownBy w' ov.ownBlock → w'.cell? ⟨w.heap.size + 1, p, none⟩ = some (.pointer (some ⟨ap, 0, none⟩)) ∧ w'.cell? ⟨w.heap.size + 1, k, none⟩ = some (.pointer (some ⟨ak, 0, none⟩)) ∧ w'.cell? ⟨ap, 1, none⟩ = some ov ∧ w'.frozen? ⟨ap, 1, none⟩ = false) := fun w' hg => by
     obtain ⟨q1, q2, q3, q4, q5⟩ := FA.out
     have hl : ∀ b, b < w2.heap.size → b < (w2.alloc (.cells #[.pointer (some ⟨ak, 0, none⟩)] 137)).drew.heap.size := fun b hb => by show b < (w2.alloc _).heap.size; rw [World.size_alloc]; omega
     have hu := Up.alloc w2 (.cells #[.pointer (some ⟨ak, 0, none⟩)] 137)
     refine ⟨?_, ?_, ?_, ?_⟩
     ·rw [hg.cell_far _ (hl _ q4) (Ne.symm q2)]; exact hu.cell hr1
     ·rw [hg.cell_far _ (hl _ q4) (Ne.symm q2)]; exact hu.cell hr2
     ·rw [hg.cell_far _ (hl _ q5) (Ne.symm q3)]; exact hu.cell hkc
     ·rw [hg.frozen_far _ (hl _ q5) (Ne.symm q3)]; exact (Below.frozen hu (p := ⟨ap, 1, none⟩) q5).trans hfz
    have hr1a := (Up.alloc w2 (.cells #[.pointer (some ⟨ak, 0, none⟩)] 137)).cell hr1
    have hr2a := (Up.alloc w2 (.cells #[.pointer (some ⟨ak, 0, none⟩)] 137)).cell hr2
    have hkca := (Up.alloc w2 (.cells #[.pointer (some ⟨ak, 0, none⟩)] 137)).cell hkc
    clear zg
    refine dK (by kernel_rfl) 20 (fun w' => w'.cell? ⟨w.heap.size + 1, p, none⟩ = some (.pointer (some ⟨ap, 0, none⟩)) ∧ w'.cell? ⟨w.heap.size + 1, k, none⟩ = some (.pointer (some ⟨ak, 0, none⟩)) ∧ w'.cell? ⟨ap, 1, none⟩ = some ov) ⟨hr1, hr2, hkc⟩ (fun hS => ?_)
    simp only [List.size_toArray, List.length_cons, List.length_nil, Nat.reduceAdd, Array.replicate_succ, Array.replicate_zero, List.push_toArray, List.nil_append, List.cons_append]
    refine ag.take (i := 0) (v := ?Dr) rfl (by kernel_rfl) (fun _ _ _ h => h) (by rfl) (fun w hSw => ?pF) hS ?Ds
    case pF =>
     (try dsimp only at hSw)
     go_simp
     try with_reducible rfl
    try simp only [Act.put, aj, aq, au]
    refine ag.take (i := 1) (v := ?Dt) rfl (by kernel_rfl) (fun _ _ _ h => h) (by rfl) (fun w hSw => ?pG) hS ?Du
    case pG =>
     (try dsimp only at hSw)
     go_simp
     try with_reducible rfl
    try simp only [Act.put, aj, aq, au]
    refine ag.take (i := 2) (v := ?Dv) rfl (by kernel_rfl) (fun _ _ _ h => h) (by rfl) (fun w hSw => ?pH) hS ?Dw
    case pH =>
     (try dsimp only at hSw)
     go_simp
     try with_reducible rfl
    try simp only [Act.put, aj, aq, au]
    refine ag.take (i := 3) (v := ?NU) rfl (by kernel_rfl) (fun _ _ _ h => h) (by rfl) (fun w hSw => ?xe) hS ?NV
    case xe =>
     (try dsimp only at hSw)
     go_simp
     try with_reducible rfl
    try simp only [Act.put, aj, aq, au]
    refine ag.take (i := 4) (v := ?NW) rfl (by kernel_rfl) (fun _ _ _ h => h) (by rfl) (fun w hSw => ?xg) hS ?NX
    case xg =>
     (try dsimp only at hSw)
     go_simp
     try with_reducible rfl
    try simp only [Act.put, aj, aq, au]
    refine ag.take (i := 5) (v := ?J1) rfl (by kernel_rfl) (fun _ _ _ h => h) (by rfl) (fun w hSw => ?uh) hS ?J2
    case uh =>
     (try dsimp only at hSw)
     go_simp
     try with_reducible rfl
    try simp only [Act.put, aj, aq, au]
    refine ag.take (i := 6) (v := ?NY) rfl (by kernel_rfl) (fun _ _ _ h => h) (by rfl) (fun w hSw => ?xh) hS ?NZ
    case xh =>
     (try dsimp only at hSw)
     go_simp
     try with_reducible rfl
    try simp only [Act.put, aj, aq, au]
    refine ag.take (i := 7) (v := ?J3) rfl (by kernel_rfl) (fun _ _ _ h => h) (by rfl) (fun w hSw => ?uj) hS ?J4
    case uj =>
     (try dsimp only at hSw)
     go_simp
     try with_reducible rfl
    try simp only [Act.put, aj, aq, au]
    refine ag.take (i := 8) (v := ?T8) rfl (by kernel_rfl) (fun _ _ _ h => h) (by rfl) (fun w hSw => ?A5) hS ?T9
    case A5 =>
     (try dsimp only at hSw)
     go_simp
     try with_reducible rfl
    try simp only [Act.put, aj, aq, au]
    refine ag.take (i := 9) (v := ?Ua) rfl (by kernel_rfl) (fun _ _ _ h => h) (by rfl) (fun w hSw => ?A6) hS ?Ub
    case A6 =>
     (try dsimp only at hSw)
     go_simp
     try with_reducible rfl
    try simp only [Act.put, aj, aq, au]
    refine ag.take (i := 10) (v := ?Ri) rfl (by kernel_rfl) (fun _ _ _ h => h) (by rfl) (fun w hSw => ?zY) hS ?Rj
    case zY =>
     (try dsimp only at hSw)
     go_simp
     try with_reducible rfl
    try simp only [Act.put, aj, aq, au]
    refine ag.take (i := 11) (v := ?WB) rfl (by kernel_rfl) (fun _ _ _ h => h) (by rfl) (fun w hSw => ?FC) hS ?WC
    case FC =>
     (try dsimp only at hSw)
     go_simp
     try with_reducible rfl
    try simp only [Act.put, aj, aq, au]
    refine ag.take (i := 12) (v := ?WD) rfl (by kernel_rfl) (fun _ _ _ h => h) (by rfl) (fun w hSw => ?FD) hS ?WE
    case FD =>
     (try dsimp only at hSw)
     go_simp
     try with_reducible rfl
    try simp only [Act.put, aj, aq, au]
    refine ag.take (i := 13) (v := ?WG) rfl (by kernel_rfl) (fun _ _ _ h => h) (by rfl) (fun w hSw => ?FE) hS ?WH
    case FE =>
     (try dsimp only at hSw)
     go_simp
     try with_reducible rfl
    try simp only [Act.put, aj, aq, au]
    refine ag.take (i := 14) (v := ?WI) rfl (by kernel_rfl) (fun _ _ _ h => h) (by rfl) (fun w hSw => ?FH) hS ?WJ
    case FH =>
     (try dsimp only at hSw)
     go_simp
     try with_reducible rfl
    try simp only [Act.put, aj, aq, au]
    refine ag.step (i := 15) rfl (by kernel_rfl) (fun K' hK => ?_)
    go_simp
    refine hK.out _ _ (fun _ => ⟨(Up.alloc _ _).cell hr1, (Up.alloc _ _).cell hr2, (Up.alloc _ _).cell hkc⟩) (fun hS => ?_)
    try simp only [aj, aq, au]
    refine ag.step (i := 16) rfl (by kernel_rfl) (fun K' hK => ?_)
    refine cT (by rfl) _ _ _ (by rfl) (w.heap.size + 1 + 1) 137 _ 8 Tryz.underlying138 Tryz.rC (by rfl) (by decide) (by rfl) Rh.out (.pointer (some ⟨ak, 0, none⟩)) w2.heap.size (by rfl) jd.out (by rfl) kn.out zl.out ?_
    intro g cap w4 nt hg4 xk FI
    obtain ⟨Rk, Rl, Rm, hfz4⟩ := FB.out w4 hg4
    have LO := aa nt
    have A7 := aa (mj hg4)
    have Rn := aa xk
    clear nt hg4 xk FI
    refine hK.out _ _ (fun _ => ⟨Rk, Rl, Rm⟩) (fun hS => ?_)
    replace hS := hS ⟨19, by decide, rfl⟩
    try simp only [Act.put, aj, aq, au]
    refine ag.take (i := 17) (v := ?gv17) rfl (by kernel_rfl) (fun _ _ _ h => h) (by rfl) (fun w hSw => ?Ro) hS ?gr17
    case Ro =>
     (try dsimp only at hSw)
     go_simp
     try with_reducible rfl
    try simp only [Act.put, aj, aq, au]
    refine ag.take (i := 18) (v := ?gv18) rfl (by kernel_rfl) (fun _ _ _ h => h) (by rfl) (fun w hSw => ?Rp) hS ?gr18
    case Rp =>
     (try dsimp only at hSw)
     go_simp
     try with_reducible rfl
    try simp only [Act.put, aj, aq, au]
    refine ag.step (i := 19) rfl (by kernel_rfl) (fun K' hK => ?_)
    go_simp
    refine hK.out _ _ (aP (by kernel_rfl)) (fun hS => ?_)
    refine ag.done (by kernel_rfl) ?_
    go_wp2_with fail
    go_roundw
    case rel =>
     refine ⟨k + 1, by omega, by go_num, A4.out g cap w4 LO.out A7.out ?_⟩
     rcases Rn.out with h | h
     ·exact .inl h
     ·refine .inr ?_
      rw [h]; exact Nat.le_trans (Nat.le_succ _) (Nat.le_of_eq (World.size_alloc _ _).symm)
    case measure => simp [intOf]; omega
   ·have zk : Hid (gi t.ps k < 0) := by unfold Hid; omega
    have d1 : decide ((0 : Int) ≤ gi t.ps k) = false := by simpa using nj
    clear h0 nj
    go_wp2_with fail
    go_roundw
    case rel =>
     obtain ⟨A', kv', _, hX⟩ := HX.out
     exact ⟨k + 1, by omega, by go_num, hX.root zk.out⟩
    case measure => simp [intOf]; omega
  ·obtain rfl : k = t.ps.length := by omega
   go_wp2_with fail
   go_ret
   obtain ⟨aW, A, kv, hF, hrow⟩ := hO.out
   exact ⟨Below.trans gR.out (aW.mono (Nat.le_succ _)), _, A, kv, Nat.le_succ _, rfl, hF, hrow.congr fun i hi => by rw [if_pos hi]⟩
end
section
open Go.RowKit Go.Deep
end
section
theorem JI (ns : List ByteArray) : (aV ns).Pairwise (· < ·) := by
 unfold aV
 rw [List.pairwise_map]
 exact (List.Pairwise.filter _ List.pairwise_lt_range).imp fun h => Int.ofNat_lt.2 h
section
variable {t : aA}
end
end
section
theorem Pb {c : UInt8} {s : List UInt8} (h : c ∉ dW) : Lib.indexAny (c :: s) dW < 0 ∨ 1 ≤ Lib.indexAny (c :: s) dW := by
 have hc : dW.contains c = false := by
  cases e : dW.contains c with
  | false => rfl
  | true => exact absurd (List.contains_iff_mem.1 e) h
 rw [Lib.indexAny, hc]
 have := Lib.indexAny_ge dW s
 by_cases e : Lib.indexAny s dW = -1
 ·left; simp [e]
 ·right; rw [if_neg (by simp), if_neg (by simpa using e)]; omega
theorem Ky {c : UInt8} (h1 : c ≠ 40) (h2 : c ≠ 41) (h3 : c ≠ 44) (h4 : c ≠ 59) : c ∉ dW := by simp [dW, h1, h2, h3, h4]
def zD (r : RT) : Prop := ∀ s ∈ subR r, (s.kids ≠ [] → s.nm.size = 0) ∧ (s.kids = [] → s.nm.data.toList ≠ [] ∧ ∀ c ∈ s.nm.data.toList, c ∉ dW)
theorem Kz {nm : ByteArray} {ks : List RT} (h : zD (.node nm ks)) {k : RT} (hk : k ∈ ks) : zD k := fun s hs =>
 h s (by rw [subR, jF]; exact List.mem_cons_of_mem _ (List.mem_flatMap.2 ⟨k, hk, hs⟩))
theorem Sr {nm : ByteArray} {ks : List RT} (h0 : nm.size = 0) (h1 : ks ≠ []) (h : ∀ k ∈ ks, zD k) : zD (.node nm ks) := fun s hs => by
 rw [subR, jF, List.mem_cons, List.mem_flatMap] at hs
 rcases hs with rfl | ⟨k, hk, hs⟩
 ·exact ⟨fun _ => h0, fun e => absurd e h1⟩
 ·exact h k hk s hs
theorem Ss {nm : ByteArray} (h1 : nm.data.toList ≠ []) (h : ∀ c ∈ nm.data.toList, c ∉ dW) : zD (.node nm []) := fun s hs => by
 rw [subR, subRs, List.mem_singleton] at hs; subst hs
 exact ⟨fun e => absurd rfl e, fun _ => ⟨h1, h⟩⟩
mutual
theorem CR : ∀ (r : RT), zD r → aK r ≤ (txR r).length ∧ ∀ s ∈ cm r, s.size ≤ (txR r).length
 | .node nm [], h => by
  obtain ⟨_, h1⟩ := h _ (by rw [subR]; exact List.mem_cons_self)
  have h1 : nm.data.toList ≠ [] := (h1 rfl).1
  have hl : 0 < nm.data.toList.length := List.length_pos_iff.2 h1
  rw [aK, sizeRs, txR, cm, b7]
  refine ⟨by omega, fun s hs => ?_⟩
  rw [List.mem_singleton.1 hs, size_data]; exact Nat.le_refl _
 | .node nm (k :: ks), h => by
  obtain ⟨h1, _⟩ := h _ (by rw [subR]; exact List.mem_cons_self)
  have h1 : nm.size = 0 := h1 (by simp [RT.kids])
  obtain ⟨a1, a2⟩ := CR k (Kz h (by simp))
  obtain ⟨b1, b2⟩ := GV ks (fun q hq => Kz h (by simp [hq]))
  rw [aK, sizeRs, txR, cm, b7, List.length_cons, List.length_append, List.length_append]
  refine ⟨by simp; omega, fun s hs => ?_⟩
  rcases List.mem_cons.1 hs with rfl | hs
  ·omega
  ·rcases List.mem_append.1 hs with hs | hs
   ·have := a2 s hs; omega
   ·have := b2 s hs; omega
theorem GV : ∀ (ks : List RT), (∀ k ∈ ks, zD k) → sizeRs ks ≤ (txRs ks).length ∧ ∀ s ∈ b7 ks, s.size ≤ (txRs ks).length
 | [], _ => ⟨by rw [sizeRs]; exact Nat.zero_le _, fun s hs => by rw [b7] at hs; cases hs⟩
 | k :: ks, h => by
  obtain ⟨a1, a2⟩ := CR k (h k (by simp))
  obtain ⟨b1, b2⟩ := GV ks (fun q hq => h q (by simp [hq]))
  rw [sizeRs, txRs, b7, List.length_cons, List.length_append]
  refine ⟨by omega, fun s hs => ?_⟩
  rcases List.mem_append.1 hs with hs | hs
  ·have := a2 s hs; omega
  ·have := b2 s hs; omega
end
def pT : List (List RT) → Bool → List UInt8
 | [], _ => []
 | [Z], _ => match Z with
  | [] => []
  | r :: _ => txR r
 | Z :: Y :: st, b => pT (Y :: st) false ++ (if Z = [] then [40] else iF Z ++ (if b then [] else [44]))
def PInv (st : List (List RT)) (b : Bool) : Prop := (∀ Z ∈ st, ∀ r ∈ Z, zD r) ∧ st ≠ [] ∧ (b = true → ∀ Z, st.head? = some Z → Z ≠ []) ∧ (∀ Z, st.getLast? = some Z → Z.length ≤ 1 ∧ ((st.length ≠ 1 ∨ b = false) → Z = []))
theorem Su {Z Y : List RT} {st : List (List RT)} (h0 : Z ≠ []) (hl : st = [] → Y = []) : pT ((Y ++ [.node ByteArray.empty Z]) :: st) true = pT (Z :: Y :: st) true ++ [41] := by
 cases st with
 | nil =>
  rw [hl rfl]
  simp only [pT, List.nil_append, if_neg h0]
  rw [Aj _ h0]; simp
 | cons X st =>
  have hne : Y ++ [RT.node ByteArray.empty Z] ≠ [] := by simp
  simp only [pT, if_neg h0, if_neg hne, if_true, CQ, Aj _ h0]
  by_cases hY : Y = []
  ·subst hY; simp [iF]
  ·have : Y.length ≠ 0 := by simpa using hY
   simp [hY]
theorem KA : ∀ (s : List UInt8) (n : Nat), Lib.indexAny s dW = (n : Int) → ∀ x ∈ s.take n, x ∉ dW
 | [], n, h, x, hx => by simp at hx
 | c :: s, 0, _, x, hx => by simp at hx
 | c :: s, n + 1, h, x, hx => by
  rw [Lib.indexAny] at h
  cases hc : dW.contains c with
  | true => rw [hc, if_pos rfl] at h; omega
  | false =>
   rw [hc, if_neg (by simp)] at h
   by_cases e : Lib.indexAny s dW = -1
   ·rw [e] at h; simp at h; omega
   ·rw [if_neg (by simpa using e)] at h
    rw [List.take_succ_cons, List.mem_cons] at hx
    rcases hx with rfl | hx
    ·intro hm; rw [List.contains_iff_mem.2 hm] at hc; cases hc
    ·exact KA s n (by omega) x hx
theorem Uw : ∀ (s : List UInt8) (n : Nat), Lib.indexAny s dW = (n : Int) → n < s.length
 | [], n, h => by rw [Lib.indexAny] at h; omega
 | c :: s, 0, _ => by simp
 | c :: s, n + 1, h => by
  rw [Lib.indexAny] at h
  cases hc : dW.contains c with
  | true => rw [hc, if_pos rfl] at h; omega
  | false =>
   rw [hc, if_neg (by simp)] at h
   by_cases e : Lib.indexAny s dW = -1
   ·rw [e] at h; simp at h; omega
   ·rw [if_neg (by simpa using e)] at h
    have := Uw s n (by omega)
    rw [List.length_cons]; omega
theorem Mp (s : ByteArray) (k n : Nat) : (⟨((s.data.toList.drop k).take n).toArray⟩ : ByteArray) = s.extract k (k + n) := by
 apply ua
 rw [ByteArray.data_extract]
 simp [Nat.add_sub_cancel_left]
theorem uH : ∀ (f : Nat) (s : List UInt8) (st : List (List RT)) (b : Bool) (r : RT), s.length < f → PInv st b → pz f s st b = some r → pT st b ++ s = txR r ++ [59] ∧ zD r
 | 0, _, _, _, _, h, _, _ => by omega
 | f + 1, [], st, b, r, _, _, e => by cases e
 | f + 1, c :: s, st, b, r, hf, hI, e => by
  rw [List.length_cons] at hf
  obtain ⟨i1, i2, i3, i4⟩ := hI
  rw [pz] at e
  by_cases c1 : c = 40
  ·rw [if_pos c1] at e
   cases b with
   | true => rw [if_pos rfl] at e; cases e
   | false =>
    rw [if_neg (by simp)] at e
    obtain ⟨h1, h2⟩ := uH f s ([] :: st) false r (by omega) ⟨fun Z hZ => by
     rcases List.mem_cons.1 hZ with rfl | h
     ·intro r hr; cases hr
     ·exact i1 Z h, by simp, (fun h => by cases h), fun Z hZ => by
      cases st with
      | nil => exact absurd rfl i2
      | cons Y st =>
       rw [List.getLast?_cons_cons] at hZ
       have := i4 Z hZ
       exact ⟨this.1, fun _ => this.2 (.inr rfl)⟩⟩ e
    refine ⟨?_, h2⟩
    rw [← h1, c1]
    cases st with
    | nil => exact absurd rfl i2
    | cons Y st => simp [pT]
  rw [if_neg c1] at e
  by_cases c2 : c = 41
  ·rw [if_pos c2] at e
   by_cases hb : b = false ∨ st.length = 1
   ·rw [if_pos hb] at e; cases e
   ·rw [if_neg hb] at e
    have hb1 : b = true := by cases b <;> simp at hb ⊢
    subst hb1
    match st, i2, hb with
    | [], h, _ => exact absurd rfl h
    | [Z], _, h => exact absurd (.inr rfl) h
    | Z :: Y :: st, _, _ =>
     have hZ : Z ≠ [] := i3 rfl Z rfl
     have hY : st = [] → Y = [] := fun h => by subst h; exact (i4 Y rfl).2 (.inl (by simp))
     rw [show popZ (Z :: Y :: st) = (Y ++ [.node ByteArray.empty Z]) :: st from rfl] at e
     obtain ⟨h1, h2⟩ := uH f s ((Y ++ [.node ByteArray.empty Z]) :: st) true r (by omega) ⟨fun X hX r hr => by
      rcases List.mem_cons.1 hX with rfl | h
      ·rcases List.mem_append.1 hr with h | h
       ·exact i1 Y (by simp) r h
       ·rw [List.mem_singleton.1 h]; exact Sr rfl hZ fun k hk => i1 Z (by simp) k hk
      ·exact i1 X (by simp [h]) r hr, by simp, (fun _ X hX => by cases hX; simp), fun X hX => by
       cases st with
       | nil =>
        cases hX; rw [hY rfl]
        exact ⟨by simp, fun h => by simp at h⟩
       | cons W st =>
        rw [List.getLast?_cons_cons] at hX
        have := i4 X (by rw [List.getLast?_cons_cons, List.getLast?_cons_cons]; exact hX)
        exact ⟨this.1, fun _ => this.2 (.inl (by simp))⟩⟩ e
     refine ⟨?_, h2⟩
     rw [← h1, Su hZ hY, c2]; simp
  rw [if_neg c2] at e
  by_cases c3 : c = 44
  ·rw [if_pos c3] at e
   by_cases hb : b = false ∨ st.length = 1
   ·rw [if_pos hb] at e; cases e
   ·rw [if_neg hb] at e
    have hb1 : b = true := by cases b <;> simp at hb ⊢
    subst hb1
    match st, i2, hb with
    | [], h, _ => exact absurd rfl h
    | [Z], _, h => exact absurd (.inr rfl) h
    | Z :: Y :: st, _, _ =>
     have hZ : Z ≠ [] := i3 rfl Z rfl
     obtain ⟨h1, h2⟩ := uH f s (Z :: Y :: st) false r (by omega) ⟨i1, by simp, (fun h => by cases h), fun X hX => ⟨(i4 X hX).1, fun _ => (i4 X hX).2 (.inl (by simp))⟩⟩ e
     refine ⟨?_, h2⟩
     rw [← h1, c3]
     simp [pT, hZ]
  rw [if_neg c3] at e
  by_cases c4 : c = 59
  ·rw [if_pos c4] at e
   by_cases hb : b = false ∨ st.length ≠ 1 ∨ s ≠ []
   ·rw [if_pos hb] at e; cases e
   ·rw [if_neg hb] at e
    have hb1 : b = true := by cases b <;> simp at hb ⊢
    have hs : s = [] := by simp at hb; exact hb.2.2
    have hl : st.length = 1 := by simp at hb; exact hb.2.1
    subst hb1; subst hs
    match st, hl with
    | [Z], _ =>
     have hZ : Z ≠ [] := i3 rfl Z rfl
     cases Z with
     | nil => exact absurd rfl hZ
     | cons q Z =>
      cases e
      rw [c4]
      exact ⟨rfl, i1 (q :: Z) List.mem_cons_self q List.mem_cons_self⟩
  rw [if_neg c4] at e
  by_cases c5 : b = true
  ·rw [if_pos c5] at e; cases e
  rw [if_neg c5] at e
  have hb : b = false := by cases b <;> simp at c5 ⊢
  subst hb
  by_cases c6 : Lib.indexAny (c :: s) dW < 0
  ·rw [if_pos c6] at e; cases e
  rw [if_neg c6] at e
  have hn := (Pb (s := s) (Ky c1 c2 c3 c4)).resolve_left c6
  obtain ⟨n, hn2⟩ : ∃ n : Nat, Lib.indexAny (c :: s) dW = (n : Int) := ⟨(Lib.indexAny (c :: s) dW).toNat, by omega⟩
  rw [hn2, Int.toNat_natCast] at e
  have hno : ∀ x ∈ (c :: s).take n, x ∉ dW := KA _ n hn2
  match st, i2 with
  | Z :: st, _ =>
   have hne : (c :: s).take n ≠ [] := by
    cases n with
    | zero => omega
    | succ n => simp
   rw [show ∀ q, X7 q (Z :: st) = (Z ++ [q]) :: st from fun _ => rfl] at e
   obtain ⟨h1, h2⟩ := uH f ((c :: s).drop n) ((Z ++ [.node ⟨((c :: s).take n).toArray⟩ []]) :: st) true r (by rw [List.length_drop, List.length_cons]; omega) ⟨fun X hX r hr => by
     rcases List.mem_cons.1 hX with rfl | h
     ·rcases List.mem_append.1 hr with h | h
      ·exact i1 Z (by simp) r h
      ·rw [List.mem_singleton.1 h]; exact Ss (by simpa using hne) (by simpa using hno)
     ·exact i1 X (by simp [h]) r hr, by simp, (fun _ X hX => by cases hX; simp), fun X hX => by
      cases st with
      | nil =>
       cases hX; rw [(i4 Z rfl).2 (.inr rfl)]
       exact ⟨by simp, fun h => by simp at h⟩
      | cons W st =>
       rw [List.getLast?_cons_cons] at hX
       have := i4 X (by rw [List.getLast?_cons_cons]; exact hX)
       exact ⟨this.1, fun _ => this.2 (.inr rfl)⟩⟩ e
   refine ⟨?_, h2⟩
   rw [← h1]
   have ht : c :: s = (c :: s).take n ++ (c :: s).drop n := (List.take_append_drop _ _).symm
   cases st with
   | nil =>
    rw [(i4 Z rfl).2 (.inr rfl)]
    simp only [pT, List.nil_append, txR]
    exact ht
   | cons W st =>
    have uS : Z ++ [RT.node ⟨((c :: s).take n).toArray⟩ []] ≠ [] := by simp
    simp only [pT, if_neg uS, if_true, CQ, txR, List.append_nil]
    by_cases hZ : Z = []
    ·subst hZ; simp [iF]
    ·have hz : Z.length ≠ 0 := by simpa using hZ
     simp [hZ]
theorem Pe {s : List UInt8} {r : RT} (h : pO s = some r) : s = txR r ++ [59] ∧ zD r := by
 obtain ⟨h1, h2⟩ := uH _ s [[]] false r (Nat.lt_succ_self _) ⟨(fun Z hZ r hr => by simp at hZ; subst hZ; cases hr), by simp, (fun h => by cases h), fun Z hZ => by cases hZ; simp⟩ h
 exact ⟨h1, h2⟩
theorem Pg {s : List UInt8} {r : RT} (h : pO s = some r) : (flat r).ps.length ≤ s.length ∧ (flat r).ns.length ≤ s.length ∧ ∀ k, (gs (flat r).ns k).size ≤ s.length := by
 obtain ⟨h1, h2⟩ := Pe h
 obtain ⟨h3, h4⟩ := CR r h2
 have hl : s.length = (txR r).length + 1 := by rw [h1]; simp
 refine ⟨by rw [uy]; omega, by rw [CJ]; omega, fun k => ?_⟩
 by_cases hk : k < (cm r).length
 ·have hm : gs (cm r) k ∈ cm r := by simp [gs, hk]
  have := h4 _ hm
  show (gs (cm r) k).size ≤ _
  omega
 ·have : gs (flat r).ns k = ByteArray.empty := by
   show (cm r).getD k ByteArray.empty = _
   simp [show (cm r).length ≤ k by omega]
  rw [this]; exact Nat.zero_le _
end
end Go.Proofs.YtpnmblnahjjmhaaGreat
