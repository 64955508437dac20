/- The contract of layer 31's reference's away. -/
import Derived.Test.YtpjijbophjdgaaaGreatQ44
import Derived.Test.YtpjijbophjdgaaaGreatQ45
import Derived.Deep.RegionHeld3
namespace Go.Proofs.YtpjijbophjdgaaaGreat
open Go.RowKit Go.Deep
def AwPost (w : World) (o : Option RT) (e : Ending) (w' : World) : Prop :=
  Up w w' ∧ match o with
    | none => e = .returned (.pointer none)
    | some r => ∃ b, e = .returned (.pointer (some ⟨b, 0, none⟩)) ∧ RAt (fun b => w.heap.size ≤ b) w' r (.pointer (some ⟨b, 0, none⟩))
theorem aw_none {w w' : World} {o : Option RT} {e : Ending} (h : o = none) (hu : Up w w') (he : e = .returned (.pointer none)) : AwPost w o e w' := by
  subst h; exact ⟨hu, he⟩
theorem aw_some {w w' : World} {o : Option RT} {r : RT} {b : Nat} {e : Ending} (h : o = some r) (hu : Up w w') (he : e = .returned (.pointer (some ⟨b, 0, none⟩))) (hr : RAt (fun b => w.heap.size ≤ b) w' r (.pointer (some ⟨b, 0, none⟩))) : AwPost w o e w' := by
  subst h; exact ⟨hu, b, he, hr⟩
theorem GInv.rinv {w1 : World} {base B : Nat} {kl : List Int} {kp : Option Addr} {kc : Nat} {wr : World} {kv : Value} {rs : List RT} (h : GInv w1 base B ByteArray.empty kl kp kc wr kv rs) : RInv w1 base B wr kv rs := ⟨h.wip, h.up, h.lo⟩
theorem RInv.form {w1 : World} {base B : Nat} {wr : World} {kv : Value} {rs : List RT} (h : RInv w1 base B wr kv rs) : ∃ q c, kv = .slice q rs.length c := by
  obtain ⟨vs, ho, hr⟩ := h.wip.kids
  obtain ⟨q, c, e, _⟩ := ho.form (n := rs.length) (RsAt.len rs hr)
  exact ⟨q, c, e⟩
def flK (L : List Nat) (f k : Nat) : List Nat := (L.take k).filter fun c => c != f
theorem flK_yes {L : List Nat} {f k : Nat} (h : k < L.length) (e : L[k] ≠ f) : flK L f (k + 1) = flK L f k ++ [L[k]] := by
  unfold flK
  rw [List.take_succ_eq_append_getElem h, List.filter_append, List.filter_cons_of_pos (by simpa using e)]; rfl
theorem flK_no {L : List Nat} {f k : Nat} (h : k < L.length) (e : L[k] = f) : flK L f (k + 1) = flK L f k := by
  unfold flK
  rw [List.take_succ_eq_append_getElem h, List.filter_append, List.filter_cons_of_neg (by simpa using e)]; simp
set_option maxRecDepth 100000 in
set_option maxHeartbeats 8000000 in
theorem away31_t (S : Nat → Prop) (t : Tre) (ht : treeErr t = 0) : ∀ (d n f : Nat), n < d → n < t.ps.length → ∀ (w : World) (v : Value), TreeAt S w v t → Calls Tryz.prog 101 #[v, .int .i64 n, .int .i64 f] w (AwPost w (awR t d n f)) := by
  intro d
  induction d with
  | zero => intro n f hd; omega
  | succ d ih =>
  intro n f hd hn w v hT
  obtain ⟨-, hp64, hnl, hpk, -⟩ := treeErr_zero ht
  obtain ⟨P, N, rfl, hP, hN⟩ := hT
  obtain ⟨pp, pc, rfl, -, -⟩ := SlAt.open hP
  obtain ⟨np, nc, rfl, -, -⟩ := SlAt.open hN
  have hP : IntsAt S w (.slice pp t.ps.length pc) t.ps := hP
  have hN : StrsAt S w (.slice np t.ns.length nc) t.ns := hN
  have hal := Up.alloc w (.cells #[.slice pp t.ps.length pc, .slice np t.ns.length nc] 45)
  have b0 := box2_0 w (.slice pp t.ps.length pc) (.slice np t.ns.length nc) 45
  have b1 := box2_1 w (.slice pp t.ps.length pc) (.slice np t.ns.length nc) 45
  have hsz : (w.alloc (.cells #[.slice pp t.ps.length pc, .slice np t.ns.length nc] 45)).heap.size = w.heap.size + 1 := World.size_alloc _ _
  have HT1 : Hid (TreeAt S (w.alloc (.cells #[.slice pp t.ps.length pc, .slice np t.ns.length nc] 45)) (.agg #[.slice pp t.ps.length pc, .slice np t.ns.length nc]) t) := TreeAt.keep ⟨_, _, rfl, hP, hN⟩ (hal.kept S)
  have HP1 : Hid (IntsAt S (w.alloc (.cells #[.slice pp t.ps.length pc, .slice np t.ns.length nc] 45)) (.slice pp t.ps.length pc) t.ps) := IntsAt.keep hP (hal.kept S)
  have HB0 := Lib.hid b0
  have HB1 := Lib.hid b1
  have HU := Lib.hid hal
  have HSZ := Lib.hid hsz
  have HN := Lib.hid hn
  have HD := Lib.hid hd
  have H64 := Lib.hid hp64
  have HPK := Lib.hid hpk
  have HIH : Hid (∀ q : Nat, q < n → ∀ W, TreeAt S W (.agg #[.slice pp t.ps.length pc, .slice np t.ns.length nc]) t → Calls Tryz.prog 101 #[.agg #[.slice pp t.ps.length pc, .slice np t.ns.length nc], .int .i64 (q : Nat), .int .i64 (n : Nat)] W (AwPost W (awR t d q n))) := fun q hq W hW => ih q n (by omega) (by omega) W _ hW
  have HGR : Hid (∀ c ∈ kidsL t.ps n, ∀ W, TreeAt S W (.agg #[.slice pp t.ps.length pc, .slice np t.ns.length nc]) t → Calls Tryz.prog 104 #[.agg #[.slice pp t.ps.length pc, .slice np t.ns.length nc], .int .i64 (c : Nat)] W (GrwPost W (toRF (frT t) (rkT t) c))) := fun c hc W hW => growR_t S t ht (rkT t c) c (Nat.le_refl _) (mem_kidsL.1 hc).1 W _ hW
  have HRF : Hid (awR t (d + 1) n f = packR (((kidsL t.ps n).filter fun k => k != f).map (toRF (frT t) (rkT t)) ++ if gi t.ps n < 0 then [] else (awR t d (gi t.ps n).toNat n).toList)) := by unfold Hid; rw [awR]
  have HKL : Hid ((kidsL t.ps n).length ≤ 64) := by have := frT_kids_len t n; rw [frT_kids] at this; unfold Hid; omega
  have i1 : (0 : Int) ≤ (n : Int) := by omega
  clear hal hP hN hnl hpk ih hd hn
  go_enter Tryz.func101, Tryz.ntmps101
  go_wp2_with fail
  generalize w.alloc (.cells #[.slice pp t.ps.length pc, .slice np t.ns.length nc] 45) = w1 at *
  have hG00 := GInv.start0 w1 ByteArray.empty
  rw [HSZ.out] at hG00
  have hup0 : Up w1 (w1.alloc (.cells #[.string ⟨#[]⟩, .slice none 0 0] 123)) := Up.alloc w1 _
  have hs1 : (w1.alloc (.cells #[.string ⟨#[]⟩, .slice none 0 0] 123)).heap.size = w1.heap.size + 1 := World.size_alloc _ _
  refine (kidsR_t S _ _ t n (HT1.out.keep (hup0.kept S)) (by omega) HN.out).mono ?_
  rintro e w2 ⟨hu2, kvv, rfl, hki⟩
  have hu2 : Up (w1.alloc (.cells #[.string ⟨#[]⟩, .slice none 0 0] 123)) w2 := hu2
  obtain ⟨kp, kc, rfl, -, -⟩ := SlAt.open hki
  have hG0 : GInv w1 w.heap.size (w.heap.size + 1) ByteArray.empty (ofNats (kidsL t.ps n)) kp kc w2 (.slice none 0 0) ((flK (kidsL t.ps n) f 0).map (toRF (frT t) (rkT t))) := by
    refine ⟨?_, hup0.trans hu2, IntsAt.sub hki fun b hb _ => ⟨by rw [hs1, HSZ.out] at hb; omega, fun e => by cases e⟩, by rw [HSZ.out]; exact Nat.le_refl _⟩
    have h := (Wip.start w1 (base := w.heap.size) (by rw [HSZ.out]; omega) ByteArray.empty).up hu2
    rw [HSZ.out] at h
    exact h
  have HG0 := Lib.hid hG0
  have b0 := (hup0.trans hu2).cell HB0.out
  have b1 := (hup0.trans hu2).cell HB1.out
  clear hup0 hs1 hu2 hki hG0 hG00
  have hln : (ofNats (kidsL t.ps n)).length = (kidsL t.ps n).length := by simp [ofNats]
  rw [hln]
  obtain ⟨L, hL⟩ : ∃ L, L = kidsL t.ps n := ⟨_, rfl⟩
  rw [← hL] at HKL HGR HRF HG0 ⊢
  clear hL hln
  go_wp2_with fail
  clear b0 b1
  go_loopw [9] (fun i wr => ∃ (k : Nat) (kv : Value), k ≤ L.length ∧ i = .int .i64 k ∧ Hid (GInv w1 w.heap.size (w.heap.size + 1) ByteArray.empty (ofNats L) kp kc wr kv ((flK L f k).map (toRF (frT t) (rkT t))))) (fun i _ => L.length - (intOf i).toNat)
  case atStart => exact ⟨0, _, Nat.zero_le _, rfl, HG0.out⟩
  case round =>
    obtain ⟨k, kv, hk, rfl, hG⟩ := hrel
    obtain ⟨wo, rfl⟩ : ∃ wo : World, wo = wr := ⟨_, rfl⟩
    by_cases hlt : k < L.length
    · have hc := hG.out.wip.cells
      have hkl : k < (ofNats L).length := by simp [ofNats]; exact hlt
      obtain ⟨ib, io, rfl, hic⟩ := ints_get hG.out.ints hkl
      rw [gi_ofNats hlt] at hic
      have HCM : Hid (L[k] ∈ L) := List.getElem_mem hlt
      have i2 : (0 : Int) ≤ (k : Int) := by omega
      have i3 : (k : Int) < (L.length : Int) := by omega
      have i4 : (k : Int) < 64 := by have := HKL.out; omega
      have HLT := Lib.hid hlt
      by_cases e : L[k] = f
      · have HFK := Lib.hid (flK_no hlt e)
        have e1 : (((L[k] : Nat) : Int) != (f : Int)) = false := by rw [e]; simp
        have e2 : ((L[k] : Nat) : Int) = (f : Int) := by rw [e]
        have HGG := Lib.hid hG.out
        clear e
        generalize L[k] = c at *
        clear hc hkl hk hlt hG
        go_wp2_with fail
        go_roundw
        case rel => exact ⟨k + 1, _, HLT.out, by go_num, by rw [HFK.out]; exact HGG.out⟩
        case measure => have := HLT.out; simp [intOf]; omega
      · have HFK := Lib.hid (flK_yes hlt e)
        have e2 : ¬ ((L[k] : Nat) : Int) = (f : Int) := by omega
        have e1 : (((L[k] : Nat) : Int) != (f : Int)) = true := bne_iff_ne.2 e2
        have HCG : Hid (gi (ofNats L) k = (L[k] : Nat)) := gi_ofNats hlt
        clear e
        generalize L[k] = c at *
        have HCALL : Hid (∀ W, Up wo W → Calls Tryz.prog 104 #[.agg #[.slice pp t.ps.length pc, .slice np t.ns.length nc], .int .i64 (c : Nat)] W (GrwPost W (toRF (frT t) (rkT t) c))) := fun W hW => HGR.out c HCM.out W (HT1.out.keep ((hG.out.up.trans hW).kept S))
        have k1 := hc.2.1
        have k2 := hc.2.2.2
        have hb0 := hG.out.up.cell HB0.out
        have hb1 := hG.out.up.cell HB1.out
        have HKD : Hid (∀ W, Up wo W → W.cell? ⟨w.heap.size + 1, 1, none⟩ = some kv ∧ W.cell? ⟨w.heap.size, 0, none⟩ = some (.slice pp t.ps.length pc) ∧ W.cell? ⟨w.heap.size, 1, none⟩ = some (.slice np t.ns.length nc) ∧ W.cell? ⟨ib, io + k, none⟩ = some (.int .i64 (c : Nat))) := fun W hW => ⟨hW.cell hc.2.1, hW.cell (hG.out.up.cell HB0.out), hW.cell (hG.out.up.cell HB1.out), hW.cell hic⟩
        have HGG := Lib.hid hG.out
        clear hc hkl hk hlt hG
        go_wp2_with fail
        refine region_T (by kernel_rfl) 16 (fun w' => w'.cell? ⟨w.heap.size + 1, 1, none⟩ = some kv ∧ w'.cell? ⟨w.heap.size, 0, none⟩ = some (.slice pp t.ps.length pc) ∧ w'.cell? ⟨w.heap.size, 1, none⟩ = some (.slice np t.ns.length nc) ∧ w'.cell? ⟨ib, io + k, none⟩ = some (.int .i64 (c : Nat))) (HKD.out _ (drew_up wo)) (fun hS => ?_)
        simp only [List.size_toArray, List.length_cons, List.length_nil, Nat.reduceAdd, Array.replicate_succ, Array.replicate_zero, List.push_toArray, List.nil_append, List.cons_append]
        refine anyT.take (i := 0) (v := ?gv0) rfl (by kernel_rfl) (fun _ _ _ h => h) (by rfl) (fun w hSw => ?gy0) hS ?gr0
        case gy0 =>
          (try dsimp only at hSw)
          go_simp
          try with_reducible rfl
        try simp only [Act.put, List.setIfInBounds_toArray, List.set_cons_zero, List.set_cons_succ]
        refine anyT.take (i := 1) (v := ?gv1) rfl (by kernel_rfl) (fun _ _ _ h => h) (by rfl) (fun w hSw => ?gy1) hS ?gr1
        case gy1 =>
          (try dsimp only at hSw)
          go_simp
          try with_reducible rfl
        try simp only [Act.put, List.setIfInBounds_toArray, List.set_cons_zero, List.set_cons_succ]
        refine anyT.take (i := 2) (v := ?gv2) rfl (by kernel_rfl) (fun _ _ _ h => h) (by rfl) (fun w hSw => ?gy2) hS ?gr2
        case gy2 =>
          (try dsimp only at hSw)
          go_simp
          try with_reducible rfl
        try simp only [Act.put, List.setIfInBounds_toArray, List.set_cons_zero, List.set_cons_succ]
        refine anyT.take (i := 3) (v := ?gv3) rfl (by kernel_rfl) (fun _ _ _ h => h) (by rfl) (fun w hSw => ?gy3) hS ?gr3
        case gy3 =>
          (try dsimp only at hSw)
          go_simp
          try with_reducible rfl
        try simp only [Act.put, List.setIfInBounds_toArray, List.set_cons_zero, List.set_cons_succ]
        refine anyT.take (i := 4) (v := ?gv4) rfl (by kernel_rfl) (fun _ _ _ h => h) (by rfl) (fun w hSw => ?gy4) hS ?gr4
        case gy4 =>
          (try dsimp only at hSw)
          go_simp
          try with_reducible rfl
        try simp only [Act.put, List.setIfInBounds_toArray, List.set_cons_zero, List.set_cons_succ]
        refine anyT.take (i := 5) (v := ?gv5) rfl (by kernel_rfl) (fun _ _ _ h => h) (by rfl) (fun w hSw => ?gy5) hS ?gr5
        case gy5 =>
          (try dsimp only at hSw)
          go_simp
          try with_reducible rfl
        try simp only [Act.put, List.setIfInBounds_toArray, List.set_cons_zero, List.set_cons_succ]
        refine anyT.take (i := 6) (v := ?gv6) rfl (by kernel_rfl) (fun _ _ _ h => h) (by rfl) (fun w hSw => ?gy6) hS ?gr6
        case gy6 =>
          (try dsimp only at hSw)
          go_simp
          try with_reducible rfl
        try simp only [Act.put, List.setIfInBounds_toArray, List.set_cons_zero, List.set_cons_succ]
        refine anyT.take (i := 7) (v := ?gv7) rfl (by kernel_rfl) (fun _ _ _ h => h) (by rfl) (fun w hSw => ?gy7) hS ?gr7
        case gy7 =>
          (try dsimp only at hSw)
          go_simp
          try with_reducible rfl
        try simp only [Act.put, List.setIfInBounds_toArray, List.set_cons_zero, List.set_cons_succ]
        refine anyT.take (i := 8) (v := ?gv8) rfl (by kernel_rfl) (fun _ _ _ h => h) (by rfl) (fun w hSw => ?gy8) hS ?gr8
        case gy8 =>
          (try dsimp only at hSw)
          go_simp
          try with_reducible rfl
        try simp only [Act.put, List.setIfInBounds_toArray, List.set_cons_zero, List.set_cons_succ]
        refine anyT.take (i := 9) (v := ?gv9) rfl (by kernel_rfl) (fun _ _ _ h => h) (by rfl) (fun w hSw => ?gy9) hS ?gr9
        case gy9 =>
          (try dsimp only at hSw)
          go_simp
          try with_reducible rfl
        try simp only [Act.put, List.setIfInBounds_toArray, List.set_cons_zero, List.set_cons_succ]
        refine anyT.step (i := 10) rfl (by kernel_rfl) (fun K' hK => ?_)
        go_simp
        refine (HCALL.out _ (drew_up wo)).mono ?_
        rintro e w3 ⟨hu3, u, rfl, hr3⟩
        have hu3 : Up wo.drew w3 := hu3
        obtain ⟨ub, rfl⟩ := rat_ptr hr3
        have HU3 := Lib.hid ((drew_up wo).trans hu3)
        obtain ⟨vs2, hvl, hown, hbs, hfar, hpush⟩ := HGG.out.push HU3.out hr3
        have HOW := Lib.hid hown
        have HBS := Lib.hid hbs
        have HFAR := Lib.hid hfar
        have HPUSH := Lib.hid hpush
        have HVL : Hid (vs2.length ≤ 1000000) := by
          have := HLT.out; have := HKL.out; rw [List.length_map] at hvl; have h9 := List.length_filter_le (fun c => c != f) (L.take k); rw [List.length_take] at h9; have h8 : vs2.length = ((L.take k).filter fun c => c != f).length := hvl; unfold Hid; omega
        have HCN : Hid ((w3.alloc (.cells #[.pointer (some ⟨ub, 0, none⟩)] 120)).cell? ⟨w3.heap.size, 0, none⟩ = some (.pointer (some ⟨ub, 0, none⟩))) := box1_0 _ _ _
        clear hu3 hr3 hown hbs hfar hpush hvl
        refine hK.out _ _ (fun _ => HKD.out _ HU3.out) (fun hS => ?_)
        replace hS := hS ⟨11, by decide, rfl⟩
        try simp only [List.setIfInBounds_toArray, List.set_cons_zero, List.set_cons_succ]
        refine anyT.step (i := 11) rfl (by kernel_rfl) (fun K' hK => ?_)
        go_simp
        refine hK.out _ _ (fun _ => HKD.out _ (HU3.out.trans (Up.alloc _ _))) (fun hS => ?_)
        replace hS := hS ⟨12, by decide, rfl⟩
        try simp only [List.setIfInBounds_toArray, List.set_cons_zero, List.set_cons_succ]
        refine anyT.step (i := 12) rfl (by kernel_rfl) (fun K' hK => ?_)
        refine step_app1 (by rfl) _ _ _ (by rfl) (w.heap.size + 1 + 1) 120 _ 8 Tryz.underlying121 Tryz.infoRN (by rfl) (by decide) (by rfl) HOW.out (.pointer (some ⟨ub, 0, none⟩)) w3.heap.size (by rfl) HCN.out (by rfl) HVL.out HBS.out ?_
        intro g cap w4 hown4 hg4 hor4 hbe4
        obtain ⟨q1, q2, q3, q4⟩ := HFAR.out w4 hg4
        have q5 : w4.cell? ⟨ib, io + k, none⟩ = some (.int .i64 (c : Nat)) := by rw [ints_at q4 (by simp [ofNats]; exact HLT.out), HCG.out]
        have q6 := q3 _ _ _ (by rw [HSZ.out]; omega) HB0.out
        have q7 := q3 _ _ _ (by rw [HSZ.out]; omega) HB1.out
        have HG4 := Lib.hid (HPUSH.out g cap w4 hown4 hg4 hor4)
        clear hown4 hg4 hor4 hbe4 q3 q4
        refine hK.out _ _ (fun _ => ⟨q1, q6, q7, q5⟩) (fun hS => ?_)
        replace hS := hS ⟨15, by decide, rfl⟩
        try simp only [Act.put, List.setIfInBounds_toArray, List.set_cons_zero, List.set_cons_succ]
        refine anyT.take (i := 13) (v := ?gv13) rfl (by kernel_rfl) (fun _ _ _ h => h) (by rfl) (fun w hSw => ?gy13) hS ?gr13
        case gy13 =>
          (try dsimp only at hSw)
          go_simp
          try with_reducible rfl
        try simp only [Act.put, List.setIfInBounds_toArray, List.set_cons_zero, List.set_cons_succ]
        refine anyT.take (i := 14) (v := ?gv14) rfl (by kernel_rfl) (fun _ _ _ h => h) (by rfl) (fun w hSw => ?gy14) hS ?gr14
        case gy14 =>
          (try dsimp only at hSw)
          go_simp
          try with_reducible rfl
        try simp only [Act.put, List.setIfInBounds_toArray, List.set_cons_zero, List.set_cons_succ]
        refine anyT.step (i := 15) rfl (by kernel_rfl) (fun K' hK => ?_)
        go_simp
        refine hK.out _ _ (not_more (by kernel_rfl)) (fun hS => ?_)
        refine anyT.done (by kernel_rfl) ?_
        go_wp2_with fail
        go_roundw
        case rel => exact ⟨k + 1, _, HLT.out, by go_num, by rw [HFK.out, List.map_append]; exact HG4.out⟩
        case measure => have := HLT.out; simp [intOf]; omega
    · obtain rfl : k = L.length := by omega
      have hI := hG.out.rinv
      have hfl : flK L f L.length = L.filter fun k => k != f := by unfold flK; rw [List.take_length]
      rw [hfl] at hI
      obtain ⟨kq, kqc, rfl⟩ := hI.form
      obtain ⟨K, hK⟩ : ∃ K, K = (L.filter fun k => k != f).map (toRF (frT t) (rkT t)) := ⟨_, rfl⟩
      rw [← hK] at hI HRF
      have HKK : Hid (K.length ≤ 64) := by
        unfold Hid
        rw [hK, List.length_map]
        exact Nat.le_trans (List.length_filter_le _ _) HKL.out
      have HI := Lib.hid hI
      have b0 := hI.up.cell HB0.out
      have b1 := hI.up.cell HB1.out
      obtain ⟨ib, io, rfl, hic⟩ := ints_get (IntsAt.keep HP1.out (hI.up.kept S)) HN.out
      have j2 : (n : Int) < (t.ps.length : Int) := by have := HN.out; omega
      have HIC := Lib.hid hic
      have k1 := hI.wip.cells.2.1
      clear hG hfl hI hK hlt hk HG0 HGR HKL
      by_cases hneg : gi t.ps n < 0
      · have d1 : decide ((0 : Int) ≤ gi t.ps n) = false := decide_eq_false (by omega)
        have d2 : ¬ (0 : Int) ≤ gi t.ps n := by omega
        rw [if_pos hneg, List.append_nil] at HRF
        clear hneg
        by_cases hz : K.length = 0
        · have hz1 : ((K.length : Int) == 0) = true := beq_iff_eq.2 (by omega)
          have HR : Hid (awR t (d + 1) n f = none) := by unfold Hid; rw [HRF.out]; unfold packR; rw [if_pos hz]
          have hz2 := hz
          clear hz
          go_wp2_with fail
          go_ret
          exact aw_none HR.out (HU.out.trans HI.out.up) rfl
        · have hz1 : ((K.length : Int) == 0) = false := beq_eq_false_iff_ne.2 (by omega)
          have HR : Hid (awR t (d + 1) n f = some (.node ByteArray.empty K)) := by unfold Hid; rw [HRF.out]; unfold packR; rw [if_neg hz]
          clear hz
          go_wp2_with fail
          go_ret
          exact aw_some HR.out (HU.out.trans HI.out.up) rfl HI.out.done
      · have d1 : decide ((0 : Int) ≤ gi t.ps n) = true := decide_eq_true (by omega)
        have d2 : (0 : Int) ≤ gi t.ps n := by omega
        rw [if_neg hneg] at HRF
        have h0 : n ≠ 0 := fun e => by subst e; rw [pOkB_zero HPK.out HN.out] at hneg; exact hneg (by decide)
        have hpar := pOkB_par HPK.out HN.out (by omega)
        obtain ⟨q, hq⟩ : ∃ q : Nat, gi t.ps n = q := ⟨(gi t.ps n).toNat, by omega⟩
        rw [hq] at hic d1 d2 HIC
        have HRF : Hid (awR t (d + 1) n f = packR (K ++ (awR t d q n).toList)) := by have h := HRF.out; rw [hq, Int.toNat_natCast] at h; exact h
        have HCA := Lib.hid (fun W (hW : Up wo W) => HIH.out q (by omega) W (HT1.out.keep ((HI.out.up.trans hW).kept S)))
        have HQ0 := Lib.hid b0
        have HQ1 := Lib.hid b1
        clear hneg h0 hpar hq
        cases ho : awR t d q n with
        | none =>
          rw [ho, Option.toList_none, List.append_nil] at HRF
          have HCB : Hid (∀ W, Up wo W → Calls Tryz.prog 101 #[.agg #[.slice (some ⟨ib, io, none⟩) t.ps.length pc, .slice np t.ns.length nc], .int .i64 (q : Nat), .int .i64 (n : Nat)] W fun e w' => Up W w' ∧ e = .returned (.pointer none)) := fun W hW => (HCA.out W hW).mono (by
            rintro e w' ⟨h1, h2⟩
            rw [ho] at h2
            exact ⟨h1, h2⟩)
          clear HCA ho
          go_wp2_with fail
          have hup : Hid (Up wo (wo.drewN 1)) := Up.drewN wo 1
          go_region_held3 (fun w' => Hid (Up wo w') ∧ w'.cell? ⟨w.heap.size, 0, none⟩ = some (.slice (some ⟨ib, io, none⟩) t.ps.length pc) ∧ w'.cell? ⟨w.heap.size, 1, none⟩ = some (.slice np t.ns.length nc) ∧ w'.cell? ⟨ib, io + n, none⟩ = some (.int .i64 (q : Nat))) (exact ⟨hup, hup.out.cell HQ0.out, hup.out.cell HQ1.out, hup.out.cell HIC.out⟩) (first
            | (go_at_call 101; refine (HCB.out _ hup.out).mono ?_; rintro e w5 ⟨hu5, rfl⟩; have hup : Hid (Up wo w5) := hup.out.trans hu5; clear hu5))
          have HI5 : Hid (RInv w1 w.heap.size (w.heap.size + 1) w5 (.slice kq K.length kqc) K) := ⟨HI.out.wip.up hup.out, HI.out.up.trans hup.out, HI.out.lo⟩
          have k5 := HI5.out.wip.cells.2.1
          by_cases hz : K.length = 0
          · have hz1 : ((K.length : Int) == 0) = true := beq_iff_eq.2 (by omega)
            have HR : Hid (awR t (d + 1) n f = none) := by unfold Hid; rw [HRF]; unfold packR; rw [if_pos hz]
            have hz2 := hz
            clear hz
            go_wp2_with fail
            go_ret
            exact aw_none HR.out (HU.out.trans HI5.out.up) rfl
          · have hz1 : ((K.length : Int) == 0) = false := beq_eq_false_iff_ne.2 (by omega)
            have HR : Hid (awR t (d + 1) n f = some (.node ByteArray.empty K)) := by unfold Hid; rw [HRF]; unfold packR; rw [if_neg hz]
            clear hz
            go_wp2_with fail
            go_ret
            exact aw_some HR.out (HU.out.trans HI5.out.up) rfl HI5.out.done
        | some r =>
          rw [ho, Option.toList_some] at HRF
          have HCB : Hid (∀ W, Up wo W → Calls Tryz.prog 101 #[.agg #[.slice (some ⟨ib, io, none⟩) t.ps.length pc, .slice np t.ns.length nc], .int .i64 (q : Nat), .int .i64 (n : Nat)] W fun e w' => Up W w' ∧ ∃ b, e = .returned (.pointer (some ⟨b, 0, none⟩)) ∧ RAt (fun b => W.heap.size ≤ b) w' r (.pointer (some ⟨b, 0, none⟩))) := fun W hW => (HCA.out W hW).mono (by
            rintro e w' ⟨h1, h2⟩
            rw [ho] at h2
            exact ⟨h1, h2⟩)
          clear HCA ho
          go_wp2_with fail
          have hup : Hid (Up wo (wo.drewN 1)) := Up.drewN wo 1
          go_region_held3 (fun w' => Hid (Up wo w') ∧ w'.cell? ⟨w.heap.size, 0, none⟩ = some (.slice (some ⟨ib, io, none⟩) t.ps.length pc) ∧ w'.cell? ⟨w.heap.size, 1, none⟩ = some (.slice np t.ns.length nc) ∧ w'.cell? ⟨ib, io + n, none⟩ = some (.int .i64 (q : Nat))) (exact ⟨hup, hup.out.cell HQ0.out, hup.out.cell HQ1.out, hup.out.cell HIC.out⟩) (first
            | (go_at_call 101; have hz5 := hup.out.size; refine (HCB.out _ hup.out).mono ?_; rintro e w5 ⟨hu5, b5, rfl, hr5⟩; have hup : Hid (Up wo w5) := hup.out.trans hu5; have HR5 : Hid (RAt (fun b => wo.heap.size ≤ b) w5 r (.pointer (some ⟨b5, 0, none⟩))) := RAt.sub (fun b hb _ => Nat.le_trans hz5 hb) _ hr5; clear hu5 hr5 hz5))
          obtain ⟨vs5, hvl5, ho5, hs5, hcW5, hpush5⟩ := HI.out.push hup.out HR5.out
          have k5 := (HI.out.wip.up hup.out).cells.2.1
          have HO5 := Lib.hid ho5
          have HS5 := Lib.hid hs5
          have HW5 := Lib.hid hcW5
          have HPU5 := Lib.hid hpush5
          have HV5 : Hid (vs5.length ≤ 1000000) := by have := HKK.out; unfold Hid; omega
          have HR : Hid (awR t (d + 1) n f = some (.node ByteArray.empty (K ++ [r]))) := by
            unfold Hid; rw [HRF]; unfold packR; rw [if_neg (by rw [List.length_append, List.length_singleton]; omega)]
          have HVL := Lib.hid hvl5
          clear hvl5 ho5 hs5 hcW5 hpush5
          go_wp2_with (at_builtin; refine wpList_appG w5 rfl _ _ 121 rfl (w.heap.size + 1 + 1) 120 (.pointer none) 8 Tryz.underlying121 Tryz.infoRN rfl (by decide) HO5.out rfl (.pointer (some ⟨b5, 0, none⟩)) rfl rfl vs5.length rfl HV5.out HS5.out ?_; intro g cap W hown hg hor; obtain ⟨hcB, hfB⟩ := HW5.out W hg; have hN := Lib.hid (HPU5.out g cap W hown hg hor); clear hown hg hor)
          go_ret
          exact aw_some HR.out (HU.out.trans hN.out.up) rfl hN.out.done
end Go.Proofs.YtpjijbophjdgaaaGreat
