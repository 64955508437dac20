/- phylotree.nodes again: the row of nodes lies apart from the forest. The walk of phylotree.Reroot. SharederrorClades, plain: Restrict keeps the whole tree, Consistent finds every group. Texts of rose trees, plain: what the machine reads is the text of the result, and the other way round. -/
import Derived.Test.YtpnmblnahjjmhaaGreatQ1
import Derived.Test.YtpnmblnahjjmhaaGreatQ6
import Derived.Test.YtpnmblnahjjmhaaGreatQ21
import Derived.Test.YtpnmblnahjjmhaaGreatQ22
namespace Go.Proofs.YtpnmblnahjjmhaaGreat
set_option maxRecDepth 100000
section
open Go.RowKit Go.Deep
def Mq (w : World) (t : aJ) (e : Ending) (w' : World) : Prop :=
 Up w w' ∧ ∃ g A kv, w.heap.size ≤ g ∧ e = .returned (.slice (some ⟨g, 0, none⟩) t.ps.length t.ps.length) ∧ bZ (g + 1) t.ps.length A kv (dr t) w' ∧ w'.rowIs g 137 t.ps.length (b7 A)
set_option maxHeartbeats 2000000 in
theorem Sm (S : Nat → Prop) (w : World) (v : Value) (t : aJ) (hT : aO S w v t) (hp : t.ps.length ≤ 1000) (hn : t.ns.length = t.ps.length) (hok : gx t.ps = true) (hz : ∀ k, (gs t.ns k).size ≤ 70000) :
  Calls Tryz.prog 129 #[v] w (Mq w t) := by
 obtain ⟨P, N, rfl, hP, hN⟩ := hT
 obtain ⟨pP, iM, rfl, hcapP, _⟩ := aC.open hP
 have hP : an S w (.slice pP t.ps.length iM) t.ps := hP
 obtain ⟨pN, iN, rfl, hcapN, _⟩ := aC.open hN
 have hN : aG S w (.slice pN t.ns.length iN) t.ns := hN
 have hmk := fun W => run_make_row' (P := Tryz.prog) 138 137 (.pointer none) 8 Tryz.underlying138 Tryz.r7 rfl .i64 .i64 t.ps.length (by omega) (by omega) W
 have hu := Up.alloc w (.cells #[.slice pP t.ps.length iM, .slice pN t.ns.length iN] 39)
 have hb0 := dg w (.slice pP t.ps.length iM) (.slice pN t.ns.length iN) 39
 have cB := dy w (.slice pP t.ps.length iM) (.slice pN t.ns.length iN) 39
 have aL := Up.alloc (w.alloc (.cells #[.slice pP t.ps.length iM, .slice pN t.ns.length iN] 39)) (.cells (madeCells #[.pointer none] t.ps.length) 137)
 have HW : Hid (zC ((w.alloc (.cells #[.slice pP t.ps.length iM, .slice pN t.ns.length iN] 39)).alloc (.cells (madeCells #[.pointer none] t.ps.length) 137)) ((w.alloc (.cells #[.slice pP t.ps.length iM, .slice pN t.ns.length iN] 39)).alloc (.cells (madeCells #[.pointer none] t.ps.length) 137)) (w.heap.size + 1) t.ps.length 0 t) := by
  refine ⟨Below.refl _ _, fun _ => 0, fun _ => .slice none 0 0, bZ.empty _ _ _ _ _, ?_⟩
  have h := World.rowIs_made (w.alloc (.cells #[.slice pP t.ps.length iM, .slice pN t.ns.length iN] 39)) (.pointer none) t.ps.length 137
  simp only [World.size_alloc] at h
  exact h
 have iD := ag (hu.trans aL)
 have hsz : w.heap.size + 1 + 1 = ((w.alloc (.cells #[.slice pP t.ps.length iM, .slice pN t.ns.length iN] 39)).alloc (.cells (madeCells #[.pointer none] t.ps.length) 137)).heap.size := by simp
 have dG := ag hsz
 have gN := ag (aL.cell hb0)
 have gU := ag (aL.cell cB)
 have HP := ag hP
 have HN := ag hN
 have xG := ag hz
 have gu := ag hok
 have iY := ag hn
 have hnl : (t.ps.length : Int) ≤ (t.ns.length : Int) := by omega
 clear hsz hu hb0 cB aL hP hN hz hok hn
 aq Tryz.func129, Tryz.ntmps129
 aa fail
 generalize (w.alloc (.cells #[.slice pP t.ps.length iM, .slice pN t.ns.length iN] 39)).alloc (.cells (madeCells #[.pointer none] t.ps.length) 137) = w1 at *
 aV [13] (fun i wr => ∃ k : Nat, k ≤ t.ps.length ∧ i = .int .i64 k ∧ Hid (zC w1 wr (w.heap.size + 1) t.ps.length k t)) (fun i _ => t.ps.length - (intOf i).toNat)
 case atStart => exact ⟨0, Nat.zero_le _, rfl, HW⟩
 case round =>
  obtain ⟨k, hk, rfl, hO⟩ := bE
  obtain ⟨wo, rfl⟩ : ∃ wo : World, wo = wr := ⟨_, rfl⟩
  by_cases hlt : k < t.ps.length
  ·obtain ⟨bG, A, kv, hF, hrow⟩ := hO.out
   have hc0 : wo.cell? ⟨w.heap.size, 0, none⟩ = some (.slice pP t.ps.length iM) := by rw [bG.cell (p := ⟨w.heap.size, 0, none⟩) (Nat.lt_succ_self _)]; exact gN.out
   have hc1 : wo.cell? ⟨w.heap.size, 1, none⟩ = some (.slice pN t.ns.length iN) := by rw [bG.cell (p := ⟨w.heap.size, 1, none⟩) (Nat.lt_succ_self _)]; exact gU.out
   have FD : Up w wo := Below.trans iD.out (bG.mono (Nat.le_succ _))
   obtain ⟨bP, oP, rfl, nJ⟩ := bV (an.keep HP.out (FD.kept S)) hlt
   obtain ⟨bN, oN, rfl, o4⟩ := dh (aG.keep HN.out (FD.kept S)) (k := k) (by rw [iY.out]; exact hlt)
   have HX := ag hO.out.new
   have Ww : (wo.alloc (.cells #[.string (gs t.ns k), .slice none 0 0, .int .i64 k] 140)).cell? ⟨w.heap.size + 1, k, none⟩ = some (.pointer none) := by
    have h := (hrow.alloc (.cells #[.string (gs t.ns k), .slice none 0 0, .int .i64 k] 140)).cell hlt
    rw [h, if_neg (Nat.lt_irrefl k)]
   have hfo : (wo.alloc (.cells #[.string (gs t.ns k), .slice none 0 0, .int .i64 k] 140)).frozen? ⟨w.heap.size + 1, k, none⟩ = false := (hrow.alloc _).frozen k
   clear hF hrow bG FD hO
   have h0 : gi t.ps k < k ∧ (0 < k → 0 ≤ gi t.ps k) ∧ (k = 0 → gi t.ps k = -1) := Nz gu.out hlt
   by_cases od : 0 ≤ gi t.ps k
   ·obtain ⟨p, FE⟩ := Int.eq_ofNat_of_zero_le od
    have hpk : p < k := by omega
    rw [FE] at nJ
    have d1 : decide ((0 : Int) ≤ (p : Int)) = true := by simp
    have zD := ag FE
    clear h0 od FE
    aa fail
    generalize (wo.alloc (.cells #[.string (gs t.ns k), .slice none 0 0, .int .i64 k] 140)).setCell ⟨w.heap.size + 1, k, none⟩ (.pointer (some ⟨wo.heap.size, 0, none⟩)) = w2 at *
    obtain ⟨A, kv, FF, hX⟩ := HX.out
    have jg : w2.cell? ⟨w.heap.size + 1, p, none⟩ = some (.pointer (some ⟨A p, 0, none⟩)) := by
     have h := hX.row.cell (i := p) (by omega)
     rw [if_pos (by omega)] at h; exact h
    have jW : w2.cell? ⟨w.heap.size + 1, k, none⟩ = some (.pointer (some ⟨A k, 0, none⟩)) := by
     have h := hX.row.cell (i := k) hlt
     rw [if_pos (by omega)] at h; exact h
    have Wx : Hid (b7 A k = .pointer (some ⟨wo.heap.size, 0, none⟩)) := by unfold Hid b7; rw [FF]
    rw [FF] at jW
    have hkc := hX.fr.qG (i := p) (by omega)
    have hfz := hX.fr.Fz (i := p) (by omega) 1
    have vw : Hid (ay (w.heap.size + 1 + 1) 137 w2 (kv p) ((cA t.ps p k).map (b7 A))) := by have h := hX.fr.own p (by omega); rw [pF] at h; exact h
    have zy := ag hX
    have FG : Hid (A p ≠ w.heap.size + 1 ∧ (kv p).ownBlock ≠ some (w.heap.size + 1) ∧ (kv p).ownBlock ≠ some (A p) ∧ w.heap.size + 1 < w2.heap.size ∧ A p < w2.heap.size) := ⟨(hX.fr.oa (by omega)).1, (hX.fr.oa (by omega)).2, hX.fr.apart p p (by omega) (by omega), hX.row.lt, hX.fr.lt (by omega)⟩
    have i0 : (0 : Int) ≤ (p : Int) := by omega
    have i1 : (p : Int) < (t.ps.length : Int) := by omega
    have i2 : (0 : Int) ≤ (k : Int) := by omega
    have i3 : (k : Int) < (t.ps.length : Int) := by omega
    have kZ : Hid (((cA t.ps p k).map (b7 A)).length ≤ 1000000) := by unfold Hid; rw [List.length_map]; have := qi t.ps p k; omega
    have Bj : Hid (∀ g cap w', ay (w.heap.size + 1 + 1) 137 w' (.slice (some ⟨g, 0, none⟩) (((cA t.ps p k).map (b7 A)).length + 1) cap) ((cA t.ps p k).map (b7 A) ++ [.pointer (some ⟨wo.heap.size, 0, none⟩)]) → w2.grownBy w' (kv p).ownBlock → ((kv p).ownBlock = some g ∨ w2.heap.size ≤ g) → zC w1 (w'.setCell ⟨A p, 1, none⟩ (.slice (some ⟨g, 0, none⟩) (((cA t.ps p k).map (b7 A)).length + 1) cap)) (w.heap.size + 1) t.ps.length (k + 1) t) := fun g cap w' h1 h2 h3 => hX.push hpk zD.out (by rw [Wx.out]; exact h1) h2 (fun b hb => by cases hb; exact h3)
    clear FF hX HX Ww hfo nJ o4 hc0 hc1
    generalize b7 A = na at *
    generalize hap : A p = ap at *
    generalize wo.heap.size = ak at *
    generalize kv p = ov at *
    generalize List.map na (cA t.ps p k) = vs at *
    have Rl : Hid (ay (w.heap.size + 1 + 1) 137 (w2.alloc (.cells #[.pointer (some ⟨ak, 0, none⟩)] 137)).drew ov vs) := vw.out.alloc _
    have jH : Hid ((w2.alloc (.cells #[.pointer (some ⟨ak, 0, none⟩)] 137)).drew.cell? ⟨w2.heap.size, 0, none⟩ = some (.pointer (some ⟨ak, 0, none⟩))) := bI _ _ _ 0
    have zF : Hid (w.heap.size + 1 + 1 ≤ (w2.alloc (.cells #[.pointer (some ⟨ak, 0, none⟩)] 137)).drew.heap.size) := by
     have := FG.out.2.2.2.1
     show _ ≤ (w2.alloc _).heap.size
     rw [World.size_alloc]; omega
    have FH : Hid (∀ (w' : World), (w2.alloc (.cells #[.pointer (some ⟨ak, 0, none⟩)] 137)).drew.grownBy w' ov.ownBlock → w'.cell? ⟨w.heap.size + 1, p, none⟩ = some (.pointer (some ⟨ap, 0, none⟩)) ∧ w'.cell? ⟨w.heap.size + 1, k, none⟩ = some (.pointer (some ⟨ak, 0, none⟩)) ∧ w'.cell? ⟨ap, 1, none⟩ = some ov ∧ w'.frozen? ⟨ap, 1, none⟩ = false) := fun w' hg => by
     obtain ⟨q1, q2, q3, q4, q5⟩ := FG.out
     have hl : ∀ b, b < w2.heap.size → b < (w2.alloc (.cells #[.pointer (some ⟨ak, 0, none⟩)] 137)).drew.heap.size := fun b hb => by show b < (w2.alloc _).heap.size; rw [World.size_alloc]; omega
     have hu := Up.alloc w2 (.cells #[.pointer (some ⟨ak, 0, none⟩)] 137)
     refine ⟨?_, ?_, ?_, ?_⟩
     ·rw [hg.cell_far _ (hl _ q4) (Ne.symm q2)]; exact hu.cell jg
     ·rw [hg.cell_far _ (hl _ q4) (Ne.symm q2)]; exact hu.cell jW
     ·rw [hg.cell_far _ (hl _ q5) (Ne.symm q3)]; exact hu.cell hkc
     ·rw [hg.frozen_far _ (hl _ q5) (Ne.symm q3)]; exact (Below.frozen hu (p := ⟨ap, 1, none⟩) q5).trans hfz
    have hr1a := (Up.alloc w2 (.cells #[.pointer (some ⟨ak, 0, none⟩)] 137)).cell jg
    have hr2a := (Up.alloc w2 (.cells #[.pointer (some ⟨ak, 0, none⟩)] 137)).cell jW
    have hkca := (Up.alloc w2 (.cells #[.pointer (some ⟨ak, 0, none⟩)] 137)).cell hkc
    clear zy
    refine eE (by af) 20 (fun w' => w'.cell? ⟨w.heap.size + 1, p, none⟩ = some (.pointer (some ⟨ap, 0, none⟩)) ∧ w'.cell? ⟨w.heap.size + 1, k, none⟩ = some (.pointer (some ⟨ak, 0, none⟩)) ∧ w'.cell? ⟨ap, 1, none⟩ = some ov) ⟨jg, jW, hkc⟩ (fun hS => ?_)
    simp only [List.size_toArray, List.length_cons, List.length_nil, Nat.reduceAdd, Array.replicate_succ, Array.replicate_zero, List.push_toArray, List.nil_append, List.cons_append]
    refine au.take (i := 0) (v := ?DB) rfl (by af) (fun _ _ _ h => h) (by rfl) (fun w av => ?qm) hS ?DC
    case qm =>
     (try dsimp only at av)
     aj
     try ah rfl
    try simp only [Act.put, az, aA, aB]
    refine au.take (i := 1) (v := ?DD) rfl (by af) (fun _ _ _ h => h) (by rfl) (fun w av => ?qn) hS ?DE
    case qn =>
     (try dsimp only at av)
     aj
     try ah rfl
    try simp only [Act.put, az, aA, aB]
    refine au.take (i := 2) (v := ?DF) rfl (by af) (fun _ _ _ h => h) (by rfl) (fun w av => ?qq) hS ?DG
    case qq =>
     (try dsimp only at av)
     aj
     try ah rfl
    try simp only [Act.put, az, aA, aB]
    refine au.take (i := 3) (v := ?NX) rfl (by af) (fun _ _ _ h => h) (by rfl) (fun w av => ?xH) hS ?NY
    case xH =>
     (try dsimp only at av)
     aj
     try ah rfl
    try simp only [Act.put, az, aA, aB]
    refine au.take (i := 4) (v := ?NZ) rfl (by af) (fun _ _ _ h => h) (by rfl) (fun w av => ?xI) hS ?N9
    case xI =>
     (try dsimp only at av)
     aj
     try ah rfl
    try simp only [Act.put, az, aA, aB]
    refine au.take (i := 5) (v := ?J2) rfl (by af) (fun _ _ _ h => h) (by rfl) (fun w av => ?uI) hS ?J3
    case uI =>
     (try dsimp only at av)
     aj
     try ah rfl
    try simp only [Act.put, az, aA, aB]
    refine au.take (i := 6) (v := ?Oa) rfl (by af) (fun _ _ _ h => h) (by rfl) (fun w av => ?xJ) hS ?Ob
    case xJ =>
     (try dsimp only at av)
     aj
     try ah rfl
    try simp only [Act.put, az, aA, aB]
    refine au.take (i := 7) (v := ?J4) rfl (by af) (fun _ _ _ h => h) (by rfl) (fun w av => ?uJ) hS ?J5
    case uJ =>
     (try dsimp only at av)
     aj
     try ah rfl
    try simp only [Act.put, az, aA, aB]
    refine au.take (i := 8) (v := ?T4) rfl (by af) (fun _ _ _ h => h) (by rfl) (fun w av => ?Bk) hS ?T5
    case Bk =>
     (try dsimp only at av)
     aj
     try ah rfl
    try simp only [Act.put, az, aA, aB]
    refine au.take (i := 9) (v := ?T6) rfl (by af) (fun _ _ _ h => h) (by rfl) (fun w av => ?Bl) hS ?T7
    case Bl =>
     (try dsimp only at av)
     aj
     try ah rfl
    try simp only [Act.put, az, aA, aB]
    refine au.take (i := 10) (v := ?Rm) rfl (by af) (fun _ _ _ h => h) (by rfl) (fun w av => ?Am) hS ?Rn
    case Am =>
     (try dsimp only at av)
     aj
     try ah rfl
    try simp only [Act.put, az, aA, aB]
    refine au.take (i := 11) (v := ?Wy) rfl (by af) (fun _ _ _ h => h) (by rfl) (fun w av => ?FI) hS ?Wz
    case FI =>
     (try dsimp only at av)
     aj
     try ah rfl
    try simp only [Act.put, az, aA, aB]
    refine au.take (i := 12) (v := ?WA) rfl (by af) (fun _ _ _ h => h) (by rfl) (fun w av => ?FJ) hS ?WB
    case FJ =>
     (try dsimp only at av)
     aj
     try ah rfl
    try simp only [Act.put, az, aA, aB]
    refine au.take (i := 13) (v := ?WC) rfl (by af) (fun _ _ _ h => h) (by rfl) (fun w av => ?FK) hS ?WD
    case FK =>
     (try dsimp only at av)
     aj
     try ah rfl
    try simp only [Act.put, az, aA, aB]
    refine au.take (i := 14) (v := ?WE) rfl (by af) (fun _ _ _ h => h) (by rfl) (fun w av => ?FL) hS ?WG
    case FL =>
     (try dsimp only at av)
     aj
     try ah rfl
    try simp only [Act.put, az, aA, aB]
    refine au.step (i := 15) rfl (by af) (fun K' hK => ?_)
    aj
    refine hK.out _ _ (fun _ => ⟨(Up.alloc _ _).cell jg, (Up.alloc _ _).cell jW, (Up.alloc _ _).cell hkc⟩) (fun hS => ?_)
    try simp only [az, aA, aB]
    refine au.step (i := 16) rfl (by af) (fun K' hK => ?_)
    refine dK (by rfl) _ _ _ (by rfl) (w.heap.size + 1 + 1) 137 _ 8 Tryz.underlying138 Tryz.r7 (by rfl) (by decide) (by rfl) Rl.out (.pointer (some ⟨ak, 0, none⟩)) w2.heap.size (by rfl) jH.out (by rfl) kZ.out zF.out ?_
    intro g cap w4 oe hg4 xK FM
    obtain ⟨Ro, Rp, Rq, hfz4⟩ := FH.out w4 hg4
    have LR := ag oe
    have Bm := ag (nj hg4)
    have Rr := ag xK
    clear oe hg4 xK FM
    refine hK.out _ _ (fun _ => ⟨Ro, Rp, Rq⟩) (fun hS => ?_)
    replace hS := hS ⟨19, by decide, rfl⟩
    try simp only [Act.put, az, aA, aB]
    refine au.take (i := 17) (v := ?gv17) rfl (by af) (fun _ _ _ h => h) (by rfl) (fun w av => ?Rs) hS ?gr17
    case Rs =>
     (try dsimp only at av)
     aj
     try ah rfl
    try simp only [Act.put, az, aA, aB]
    refine au.take (i := 18) (v := ?gv18) rfl (by af) (fun _ _ _ h => h) (by rfl) (fun w av => ?Rt) hS ?gr18
    case Rt =>
     (try dsimp only at av)
     aj
     try ah rfl
    try simp only [Act.put, az, aA, aB]
    refine au.step (i := 19) rfl (by af) (fun K' hK => ?_)
    aj
    refine hK.out _ _ (bh (by af)) (fun hS => ?_)
    refine au.done (by af) ?_
    aa fail
    aF
    case rel =>
     refine ⟨k + 1, by omega, by aH, Bj.out g cap w4 LR.out Bm.out ?_⟩
     rcases Rr.out with h | h
     ·exact .inl h
     ·refine .inr ?_
      rw [h]; exact Nat.le_trans (Nat.le_succ _) (Nat.le_of_eq (World.size_alloc _ _).symm)
    case measure => simp [intOf]; omega
   ·have zD : Hid (gi t.ps k < 0) := by unfold Hid; omega
    have d1 : decide ((0 : Int) ≤ gi t.ps k) = false := by simpa using od
    clear h0 od
    aa fail
    aF
    case rel =>
     obtain ⟨A', kv', _, hX⟩ := HX.out
     exact ⟨k + 1, by omega, by aH, hX.root zD.out⟩
    case measure => simp [intOf]; omega
  ·obtain rfl : k = t.ps.length := by omega
   aa fail
   ax
   obtain ⟨bG, A, kv, hF, hrow⟩ := hO.out
   exact ⟨Below.trans iD.out (bG.mono (Nat.le_succ _)), _, A, kv, Nat.le_succ _, rfl, hF, hrow.congr fun i hi => by rw [if_pos hi]⟩
end
section
open Go.RowKit Go.Deep
end
section
theorem JH (ns : List ByteArray) : (bD ns).Pairwise (· < ·) := by
 unfold bD
 rw [List.pairwise_map]
 exact (List.Pairwise.filter _ List.pairwise_lt_range).imp fun h => Int.ofNat_lt.2 h
section
variable {t : aJ}
end
end
section
theorem Pg {c : UInt8} {s : List UInt8} (h : c ∉ eW) : Lib.indexAny (c :: s) eW < 0 ∨ 1 ≤ Lib.indexAny (c :: s) eW := by
 have hc : eW.contains c = false := by
  cases e : eW.contains c with
  | false => rfl
  | true => exact absurd (List.contains_iff_mem.1 e) h
 rw [Lib.indexAny, hc]
 have := Lib.indexAny_ge eW s
 by_cases e : Lib.indexAny s eW = -1
 ·left; simp [e]
 ·right; rw [if_neg (by simp), if_neg (by simpa using e)]; omega
theorem Kz {c : UInt8} (h1 : c ≠ 40) (h2 : c ≠ 41) (h3 : c ≠ 44) (h4 : c ≠ 59) : c ∉ eW := by simp [eW, h1, h2, h3, h4]
def zV (r : RT) : Prop := ∀ s ∈ subR r, (s.kids ≠ [] → s.nm.size = 0) ∧ (s.kids = [] → s.nm.data.toList ≠ [] ∧ ∀ c ∈ s.nm.data.toList, c ∉ eW)
theorem KA {nm : ByteArray} {ks : List RT} (h : zV (.node nm ks)) {k : RT} (hk : k ∈ ks) : zV k := fun s hs =>
 h s (by rw [subR, kr]; exact List.mem_cons_of_mem _ (List.mem_flatMap.2 ⟨k, hk, hs⟩))
theorem Sn {nm : ByteArray} {ks : List RT} (h0 : nm.size = 0) (h1 : ks ≠ []) (h : ∀ k ∈ ks, zV k) : zV (.node nm ks) := fun s hs => by
 rw [subR, kr, List.mem_cons, List.mem_flatMap] at hs
 rcases hs with rfl | ⟨k, hk, hs⟩
 ·exact ⟨fun _ => h0, fun e => absurd e h1⟩
 ·exact h k hk s hs
theorem Sq {nm : ByteArray} (h1 : nm.data.toList ≠ []) (h : ∀ c ∈ nm.data.toList, c ∉ eW) : zV (.node nm []) := fun s hs => by
 rw [subR, subRs, List.mem_singleton] at hs; subst hs
 exact ⟨fun e => absurd rfl e, fun _ => ⟨h1, h⟩⟩
mutual
theorem C1 : ∀ (r : RT), zV r → aS r ≤ (txR r).length ∧ ∀ s ∈ cT r, s.size ≤ (txR r).length
 | .node nm [], h => by
  obtain ⟨_, h1⟩ := h _ (by rw [subR]; exact List.mem_cons_self)
  have h1 : nm.data.toList ≠ [] := (h1 rfl).1
  have hl : 0 < nm.data.toList.length := List.length_pos_iff.2 h1
  rw [aS, sizeRs, txR, cT, cR]
  refine ⟨by omega, fun s hs => ?_⟩
  rw [List.mem_singleton.1 hs, size_data]; exact Nat.le_refl _
 | .node nm (k :: ks), h => by
  obtain ⟨h1, _⟩ := h _ (by rw [subR]; exact List.mem_cons_self)
  have h1 : nm.size = 0 := h1 (by simp [RT.kids])
  obtain ⟨a1, a2⟩ := C1 k (KA h (by simp))
  obtain ⟨b1, b2⟩ := GY ks (fun q hq => KA h (by simp [hq]))
  rw [aS, sizeRs, txR, cT, cR, List.length_cons, List.length_append, List.length_append]
  refine ⟨by simp; omega, fun s hs => ?_⟩
  rcases List.mem_cons.1 hs with rfl | hs
  ·omega
  ·rcases List.mem_append.1 hs with hs | hs
   ·have := a2 s hs; omega
   ·have := b2 s hs; omega
theorem GY : ∀ (ks : List RT), (∀ k ∈ ks, zV k) → sizeRs ks ≤ (txRs ks).length ∧ ∀ s ∈ cR ks, s.size ≤ (txRs ks).length
 | [], _ => ⟨by rw [sizeRs]; exact Nat.zero_le _, fun s hs => by rw [cR] at hs; cases hs⟩
 | k :: ks, h => by
  obtain ⟨a1, a2⟩ := C1 k (h k (by simp))
  obtain ⟨b1, b2⟩ := GY ks (fun q hq => h q (by simp [hq]))
  rw [sizeRs, txRs, cR, List.length_cons, List.length_append]
  refine ⟨by omega, fun s hs => ?_⟩
  rcases List.mem_append.1 hs with hs | hs
  ·have := a2 s hs; omega
  ·have := b2 s hs; omega
end
def pT : List (List RT) → Bool → List UInt8
 | [], _ => []
 | [Z], _ => match Z with
  | [] => []
  | r :: _ => txR r
 | Z :: Y :: st, b => pT (Y :: st) false ++ (if Z = [] then [40] else ja Z ++ (if b then [] else [44]))
def PInv (st : List (List RT)) (b : Bool) : Prop := (∀ Z ∈ st, ∀ r ∈ Z, zV r) ∧ st ≠ [] ∧ (b = true → ∀ Z, st.head? = some Z → Z ≠ []) ∧ (∀ Z, st.getLast? = some Z → Z.length ≤ 1 ∧ ((st.length ≠ 1 ∨ b = false) → Z = []))
theorem Sr {Z Y : List RT} {st : List (List RT)} (h0 : Z ≠ []) (hl : st = [] → Y = []) : pT ((Y ++ [.node ByteArray.empty Z]) :: st) true = pT (Z :: Y :: st) true ++ [41] := by
 cases st with
 | nil =>
  rw [hl rfl]
  simp only [pT, List.nil_append, if_neg h0]
  rw [AF _ h0]; simp
 | cons X st =>
  have hne : Y ++ [RT.node ByteArray.empty Z] ≠ [] := by simp
  simp only [pT, if_neg h0, if_neg hne, if_true, C0, AF _ h0]
  by_cases hY : Y = []
  ·subst hY; simp [ja]
  ·have : Y.length ≠ 0 := by simpa using hY
   simp [hY]
theorem KB : ∀ (s : List UInt8) (n : Nat), Lib.indexAny s eW = (n : Int) → ∀ x ∈ s.take n, x ∉ eW
 | [], n, h, x, hx => by simp at hx
 | c :: s, 0, _, x, hx => by simp at hx
 | c :: s, n + 1, h, x, hx => by
  rw [Lib.indexAny] at h
  cases hc : eW.contains c with
  | true => rw [hc, if_pos rfl] at h; omega
  | false =>
   rw [hc, if_neg (by simp)] at h
   by_cases e : Lib.indexAny s eW = -1
   ·rw [e] at h; simp at h; omega
   ·rw [if_neg (by simpa using e)] at h
    rw [List.take_succ_cons, List.mem_cons] at hx
    rcases hx with rfl | hx
    ·intro hm; rw [List.contains_iff_mem.2 hm] at hc; cases hc
    ·exact KB s n (by omega) x hx
theorem Uu : ∀ (s : List UInt8) (n : Nat), Lib.indexAny s eW = (n : Int) → n < s.length
 | [], n, h => by rw [Lib.indexAny] at h; omega
 | c :: s, 0, _ => by simp
 | c :: s, n + 1, h => by
  rw [Lib.indexAny] at h
  cases hc : eW.contains c with
  | true => rw [hc, if_pos rfl] at h; omega
  | false =>
   rw [hc, if_neg (by simp)] at h
   by_cases e : Lib.indexAny s eW = -1
   ·rw [e] at h; simp at h; omega
   ·rw [if_neg (by simpa using e)] at h
    have := Uu s n (by omega)
    rw [List.length_cons]; omega
theorem Mr (s : ByteArray) (k n : Nat) : (⟨((s.data.toList.drop k).take n).toArray⟩ : ByteArray) = s.extract k (k + n) := by
 apply uD
 rw [ByteArray.data_extract]
 simp [Nat.add_sub_cancel_left]
theorem va : ∀ (f : Nat) (s : List UInt8) (st : List (List RT)) (b : Bool) (r : RT), s.length < f → PInv st b → pz f s st b = some r → pT st b ++ s = txR r ++ [59] ∧ zV r
 | 0, _, _, _, _, h, _, _ => by omega
 | f + 1, [], st, b, r, _, _, e => by cases e
 | f + 1, c :: s, st, b, r, hf, hI, e => by
  rw [List.length_cons] at hf
  obtain ⟨i1, i2, i3, i4⟩ := hI
  rw [pz] at e
  by_cases c1 : c = 40
  ·rw [if_pos c1] at e
   cases b with
   | true => rw [if_pos rfl] at e; cases e
   | false =>
    rw [if_neg (by simp)] at e
    obtain ⟨h1, h2⟩ := va f s ([] :: st) false r (by omega) ⟨fun Z hZ => by
     rcases List.mem_cons.1 hZ with rfl | h
     ·intro r hr; cases hr
     ·exact i1 Z h, by simp, (fun h => by cases h), fun Z hZ => by
      cases st with
      | nil => exact absurd rfl i2
      | cons Y st =>
       rw [List.getLast?_cons_cons] at hZ
       have := i4 Z hZ
       exact ⟨this.1, fun _ => this.2 (.inr rfl)⟩⟩ e
    refine ⟨?_, h2⟩
    rw [← h1, c1]
    cases st with
    | nil => exact absurd rfl i2
    | cons Y st => simp [pT]
  rw [if_neg c1] at e
  by_cases c2 : c = 41
  ·rw [if_pos c2] at e
   by_cases hb : b = false ∨ st.length = 1
   ·rw [if_pos hb] at e; cases e
   ·rw [if_neg hb] at e
    have cB : b = true := by cases b <;> simp at hb ⊢
    subst cB
    match st, i2, hb with
    | [], h, _ => exact absurd rfl h
    | [Z], _, h => exact absurd (.inr rfl) h
    | Z :: Y :: st, _, _ =>
     have hZ : Z ≠ [] := i3 rfl Z rfl
     have hY : st = [] → Y = [] := fun h => by subst h; exact (i4 Y rfl).2 (.inl (by simp))
     rw [show popZ (Z :: Y :: st) = (Y ++ [.node ByteArray.empty Z]) :: st from rfl] at e
     obtain ⟨h1, h2⟩ := va f s ((Y ++ [.node ByteArray.empty Z]) :: st) true r (by omega) ⟨fun X hX r hr => by
      rcases List.mem_cons.1 hX with rfl | h
      ·rcases List.mem_append.1 hr with h | h
       ·exact i1 Y (by simp) r h
       ·rw [List.mem_singleton.1 h]; exact Sn rfl hZ fun k hk => i1 Z (by simp) k hk
      ·exact i1 X (by simp [h]) r hr, by simp, (fun _ X hX => by cases hX; simp), fun X hX => by
       cases st with
       | nil =>
        cases hX; rw [hY rfl]
        exact ⟨by simp, fun h => by simp at h⟩
       | cons W st =>
        rw [List.getLast?_cons_cons] at hX
        have := i4 X (by rw [List.getLast?_cons_cons, List.getLast?_cons_cons]; exact hX)
        exact ⟨this.1, fun _ => this.2 (.inl (by simp))⟩⟩ e
     refine ⟨?_, h2⟩
     rw [← h1, Sr hZ hY, c2]; simp
  rw [if_neg c2] at e
  by_cases c3 : c = 44
  ·rw [if_pos c3] at e
   by_cases hb : b = false ∨ st.length = 1
   ·rw [if_pos hb] at e; cases e
   ·rw [if_neg hb] at e
    have cB : b = true := by cases b <;> simp at hb ⊢
    subst cB
    match st, i2, hb with
    | [], h, _ => exact absurd rfl h
    | [Z], _, h => exact absurd (.inr rfl) h
    | Z :: Y :: st, _, _ =>
     have hZ : Z ≠ [] := i3 rfl Z rfl
     obtain ⟨h1, h2⟩ := va f s (Z :: Y :: st) false r (by omega) ⟨i1, by simp, (fun h => by cases h), fun X hX => ⟨(i4 X hX).1, fun _ => (i4 X hX).2 (.inl (by simp))⟩⟩ e
     refine ⟨?_, h2⟩
     rw [← h1, c3]
     simp [pT, hZ]
  rw [if_neg c3] at e
  by_cases c4 : c = 59
  ·rw [if_pos c4] at e
   by_cases hb : b = false ∨ st.length ≠ 1 ∨ s ≠ []
   ·rw [if_pos hb] at e; cases e
   ·rw [if_neg hb] at e
    have cB : b = true := by cases b <;> simp at hb ⊢
    have hs : s = [] := by simp at hb; exact hb.2.2
    have hl : st.length = 1 := by simp at hb; exact hb.2.1
    subst cB; subst hs
    match st, hl with
    | [Z], _ =>
     have hZ : Z ≠ [] := i3 rfl Z rfl
     cases Z with
     | nil => exact absurd rfl hZ
     | cons q Z =>
      cases e
      rw [c4]
      exact ⟨rfl, i1 (q :: Z) List.mem_cons_self q List.mem_cons_self⟩
  rw [if_neg c4] at e
  by_cases c5 : b = true
  ·rw [if_pos c5] at e; cases e
  rw [if_neg c5] at e
  have hb : b = false := by cases b <;> simp at c5 ⊢
  subst hb
  by_cases c6 : Lib.indexAny (c :: s) eW < 0
  ·rw [if_pos c6] at e; cases e
  rw [if_neg c6] at e
  have hn := (Pg (s := s) (Kz c1 c2 c3 c4)).resolve_left c6
  obtain ⟨n, hn2⟩ : ∃ n : Nat, Lib.indexAny (c :: s) eW = (n : Int) := ⟨(Lib.indexAny (c :: s) eW).toNat, by omega⟩
  rw [hn2, Int.toNat_natCast] at e
  have hno : ∀ x ∈ (c :: s).take n, x ∉ eW := KB _ n hn2
  match st, i2 with
  | Z :: st, _ =>
   have hne : (c :: s).take n ≠ [] := by
    cases n with
    | zero => omega
    | succ n => simp
   rw [show ∀ q, X4 q (Z :: st) = (Z ++ [q]) :: st from fun _ => rfl] at e
   obtain ⟨h1, h2⟩ := va f ((c :: s).drop n) ((Z ++ [.node ⟨((c :: s).take n).toArray⟩ []]) :: st) true r (by rw [List.length_drop, List.length_cons]; omega) ⟨fun X hX r hr => by
     rcases List.mem_cons.1 hX with rfl | h
     ·rcases List.mem_append.1 hr with h | h
      ·exact i1 Z (by simp) r h
      ·rw [List.mem_singleton.1 h]; exact Sq (by simpa using hne) (by simpa using hno)
     ·exact i1 X (by simp [h]) r hr, by simp, (fun _ X hX => by cases hX; simp), fun X hX => by
      cases st with
      | nil =>
       cases hX; rw [(i4 Z rfl).2 (.inr rfl)]
       exact ⟨by simp, fun h => by simp at h⟩
      | cons W st =>
       rw [List.getLast?_cons_cons] at hX
       have := i4 X (by rw [List.getLast?_cons_cons]; exact hX)
       exact ⟨this.1, fun _ => this.2 (.inr rfl)⟩⟩ e
   refine ⟨?_, h2⟩
   rw [← h1]
   have ht : c :: s = (c :: s).take n ++ (c :: s).drop n := (List.take_append_drop _ _).symm
   cases st with
   | nil =>
    rw [(i4 Z rfl).2 (.inr rfl)]
    simp only [pT, List.nil_append, txR]
    exact ht
   | cons W st =>
    have vr : Z ++ [RT.node ⟨((c :: s).take n).toArray⟩ []] ≠ [] := by simp
    simp only [pT, if_neg vr, if_true, C0, txR, List.append_nil]
    by_cases hZ : Z = []
    ·subst hZ; simp [ja]
    ·have hz : Z.length ≠ 0 := by simpa using hZ
     simp [hZ]
theorem Ph {s : List UInt8} {r : RT} (h : qx s = some r) : s = txR r ++ [59] ∧ zV r := by
 obtain ⟨h1, h2⟩ := va _ s [[]] false r (Nat.lt_succ_self _) ⟨(fun Z hZ r hr => by simp at hZ; subst hZ; cases hr), by simp, (fun h => by cases h), fun Z hZ => by cases hZ; simp⟩ h
 exact ⟨h1, h2⟩
theorem Pj {s : List UInt8} {r : RT} (h : qx s = some r) : (flat r).ps.length ≤ s.length ∧ (flat r).ns.length ≤ s.length ∧ ∀ k, (gs (flat r).ns k).size ≤ s.length := by
 obtain ⟨h1, h2⟩ := Ph h
 obtain ⟨h3, h4⟩ := C1 r h2
 have hl : s.length = (txR r).length + 1 := by rw [h1]; simp
 refine ⟨by rw [uT]; omega, by rw [CT]; omega, fun k => ?_⟩
 by_cases hk : k < (cT r).length
 ·have hm : gs (cT r) k ∈ cT r := by simp [gs, hk]
  have := h4 _ hm
  show (gs (cT r) k).size ≤ _
  omega
 ·have : gs (flat r).ns k = ByteArray.empty := by
   show (cT r).getD k ByteArray.empty = _
   simp [show (cT r).length ≤ k by omega]
  rw [this]; exact Nat.zero_le _
end
end Go.Proofs.YtpnmblnahjjmhaaGreat
