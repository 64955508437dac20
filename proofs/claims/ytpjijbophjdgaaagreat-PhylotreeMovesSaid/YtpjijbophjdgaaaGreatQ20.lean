/- The contract of layer 31's reference's grow: the rose tree of a node. -/
import Derived.Test.YtpjijbophjdgaaaGreatQ17
import Derived.Test.YtpjijbophjdgaaaGreatQ19
namespace Go.Proofs.YtpjijbophjdgaaaGreat
open Go.RowKit Go.Deep
theorem Tryz.infoRN : (Tryz.prog.info? 120).map (fun i => (i.zero, i.size, i.bytes)) = some (some (.pointer none), 1, 8) := by kernel_rfl
structure GInv (w1 : World) (base B : Nat) (nm : ByteArray) (kl : List Int) (kp : Option Addr) (kc : Nat) (wr : World) (kv : Value) (rs : List RT) : Prop where
  wip : Wip base B wr nm kv rs
  up : Up w1 wr
  ints : IntsAt (fun b => b ≠ B ∧ kv.ownBlock ≠ some b) wr (.slice kp kl.length kc) kl
  lo : w1.heap.size ≤ B
theorem drew_up (w : World) : Up w w.drew := Up.drewN w 1
theorem GInv.push {w1 : World} {base B : Nat} {nm : ByteArray} {kl : List Int} {kp : Option Addr} {kc : Nat} {wr w2 : World} {kv : Value} {rs : List RT} (h : GInv w1 base B nm kl kp kc wr kv rs) {r : RT} {u : Value} (hu : Up wr w2) (hr : RAt (fun b => wr.heap.size ≤ b) w2 r u) :
    ∃ vs : List Value, vs.length = rs.length ∧ Owns (B + 1) 120 (w2.alloc (.cells #[u] 120)) kv vs ∧ B + 1 ≤ (w2.alloc (.cells #[u] 120)).heap.size ∧
      (∀ W, (w2.alloc (.cells #[u] 120)).grownBy W kv.ownBlock → W.cell? ⟨B, 1, none⟩ = some kv ∧ W.frozen? ⟨B, 1, none⟩ = false ∧ (∀ b o v, b < w1.heap.size → w1.cell? ⟨b, o, none⟩ = some v → W.cell? ⟨b, o, none⟩ = some v) ∧ IntsAt (fun b => b ≠ B ∧ kv.ownBlock ≠ some b) W (.slice kp kl.length kc) kl) ∧
      ∀ g c W, Owns (B + 1) 120 W (.slice (some ⟨g, 0, none⟩) (vs.length + 1) c) (vs ++ [u]) → (w2.alloc (.cells #[u] 120)).grownBy W kv.ownBlock → (kv.ownBlock = some g ∨ g = (w2.alloc (.cells #[u] 120)).heap.size) →
        GInv w1 base B nm kl kp kc (W.setCell ⟨B, 1, none⟩ (.slice (some ⟨g, 0, none⟩) (vs.length + 1) c)) (.slice (some ⟨g, 0, none⟩) (vs.length + 1) c) (rs ++ [r]) := by
  have hal := Up.alloc w2 (.cells #[u] 120)
  have hW := (h.wip.up hu).up hal
  have hBl := h.wip.lt
  have hsz := hu.size
  have hsa : (w2.alloc (.cells #[u] 120)).heap.size = w2.heap.size + 1 := World.size_alloc _ _
  obtain ⟨vs, ho, hv⟩ := hW.kids
  obtain ⟨vs0, ho0, _⟩ := h.wip.kids
  have hkb : ∀ b, kv.ownBlock = some b → b < wr.heap.size ∧ B < b := fun b hb => ⟨(ownBlock_lt ho0 hb).2, by have := (ownBlock_lt ho0 hb).1; omega⟩
  have hi2 : IntsAt (fun b => b ≠ B ∧ kv.ownBlock ≠ some b) (w2.alloc (.cells #[u] 120)) (.slice kp kl.length kc) kl := IntsAt.keep h.ints ((hu.trans hal).kept _)
  have hi3 : ∀ W, (w2.alloc (.cells #[u] 120)).grownBy W kv.ownBlock → IntsAt (fun b => b ≠ B ∧ kv.ownBlock ≠ some b) W (.slice kp kl.length kc) kl := fun W hg =>
    IntsAt.keep hi2 fun b hb hl => hg.block b hl fun e => hb.2 e.symm
  refine ⟨vs, RsAt.len rs hv, ho, by omega, fun W hg => ?_, fun g c W hown hg hor => ?_⟩
  · have hc := hW.cells
    have hBo : some B ≠ kv.ownBlock := fun e => by have := (hkb B e.symm).2; omega
    have hBa : B < (w2.alloc (.cells #[u] 120)).heap.size := by omega
    refine ⟨?_, ?_, fun b o v hb hcb => ?_, hi3 W hg⟩
    · rw [hg.cell_far (a := ⟨B, 1, none⟩) hBa hBo]; exact hc.2.1
    · rw [hg.frozen_far (a := ⟨B, 1, none⟩) hBa hBo]; exact hc.2.2.2
    · have h1 := ((h.up.trans hu).trans hal)
      have hlo := h.lo
      rw [hg.cell_far _ (Nat.lt_of_lt_of_le hb h1.size) (fun e => by have := (hkb b e.symm).2; omega)]
      exact h1.cell hcb
  · have hor2 : ∀ b, (Value.slice (some ⟨g, 0, none⟩) (vs.length + 1) c).ownBlock = some b → kv.ownBlock = some b ∨ (w2.alloc (.cells #[u] 120)).heap.size ≤ b := fun b hb => by
      injection hb with hb
      have hb : g = b := hb
      subst hb
      rcases hor with h1 | h1
      · exact .inl h1
      · exact .inr (by omega)
    have hlo := h.lo
    have hw := h.wip.lo
    refine ⟨hW.push (RAt.keep (hal.kept _) r hr) (by omega) hBl (fun b hb => (hkb b hb).1) hv hown hg hor2, ?_, ?_, h.lo⟩
    · have h1 := (h.up.trans hu).trans hal
      refine ⟨hg.os.trans h1.os, hg.tape.trans h1.tape, hg.output.trans h1.output, ?_, fun b hb => ?_⟩
      · have := h1.size; have := hg.size; simp only [World.size_setCell]; omega
      · rw [blk_setCell_other _ _ _ _ (by omega : b ≠ B), hg.block b (Nat.lt_of_lt_of_le hb h1.size) (fun e => by have := (hkb b e.symm).2; omega)]
        exact h1.block b hb
    · have h2 := hi3 W hg
      have h3 : IntsAt (fun b => b ≠ B ∧ kv.ownBlock ≠ some b ∧ (Value.slice (some ⟨g, 0, none⟩) (vs.length + 1) c).ownBlock ≠ some b) (w2.alloc (.cells #[u] 120)) (.slice kp kl.length kc) kl := IntsAt.sub hi2 fun b hb hl => ⟨hb.1, hb.2, fun e => by
        rcases hor2 b e with h5 | h5
        · exact hb.2 h5
        · omega⟩
      have h4 := IntsAt.keep (w' := W.setCell ⟨B, 1, none⟩ (.slice (some ⟨g, 0, none⟩) (vs.length + 1) c)) h3 fun b hb hl => (blk_setCell_other _ _ _ _ hb.1).trans (hg.block b hl fun e => hb.2.1 e.symm)
      exact IntsAt.sub h4 fun b hb _ => ⟨hb.1, hb.2.2⟩
theorem ints_at {S : Nat → Prop} {w : World} {b off n cap : Nat} {xs : List Int} (h : IntsAt S w (.slice (some ⟨b, off, none⟩) n cap) xs) {k : Nat} (hk : k < xs.length) : w.cell? ⟨b, off + k, none⟩ = some (.int .i64 (gi xs k)) := by
  obtain ⟨b', o', e, hc⟩ := ints_get h hk
  injection e with e
  injection e with e1 e2
  subst e1; subst e2; exact hc
def GrwPost (w : World) (r : RT) (e : Ending) (w' : World) : Prop := Up w w' ∧ ∃ u, e = .returned u ∧ RAt (fun b => w.heap.size ≤ b) w' r u
theorem gi_ofNats {l : List Nat} {k : Nat} (h : k < l.length) : gi (ofNats l) k = (l[k] : Nat) := by simp [gi, ofNats, h]
theorem rat_ptr {S : Nat → Prop} {w : World} {r : RT} {u : Value} (h : RAt S w r u) : ∃ b, u = .pointer (some ⟨b, 0, none⟩) := by
  obtain ⟨b, _, _, _, e, _⟩ := h.open
  exact ⟨b, e⟩
set_option maxRecDepth 100000 in
set_option maxHeartbeats 4000000 in
theorem growR_t (S : Nat → Prop) (t : Tre) (ht : treeErr t = 0) : ∀ (d n : Nat), rkT t n ≤ d → n < t.ps.length → ∀ (w : World) (v : Value), TreeAt S w v t → Calls Tryz.prog 104 #[v, .int .i64 n] w (GrwPost w (toRF (frT t) (rkT t) n)) := by
  intro d
  induction d with
  | zero => intro n hd hn; unfold rkT at hd; omega
  | succ d ih =>
  intro n hd hn w v hT
  obtain ⟨_, hp64, hnl, hpk, _⟩ := treeErr_zero ht
  have hwf := (frT_arb ht).wf
  obtain ⟨P, N, rfl, hP, hN⟩ := hT
  obtain ⟨pp, pc, rfl, _, _⟩ := SlAt.open hP
  obtain ⟨np, nc, rfl, _, _⟩ := SlAt.open hN
  have hP : IntsAt S w (.slice pp t.ps.length pc) t.ps := hP
  have hN : StrsAt S w (.slice np t.ns.length nc) t.ns := hN
  have hal := Up.alloc w (.cells #[.slice pp t.ps.length pc, .slice np t.ns.length nc] 45)
  have b0 := box2_0 w (.slice pp t.ps.length pc) (.slice np t.ns.length nc) 45
  have b1 := box2_1 w (.slice pp t.ps.length pc) (.slice np t.ns.length nc) 45
  have hsz : (w.alloc (.cells #[.slice pp t.ps.length pc, .slice np t.ns.length nc] 45)).heap.size = w.heap.size + 1 := World.size_alloc _ _
  have HT1 : Hid (TreeAt S (w.alloc (.cells #[.slice pp t.ps.length pc, .slice np t.ns.length nc] 45)) (.agg #[.slice pp t.ps.length pc, .slice np t.ns.length nc]) t) := TreeAt.keep ⟨_, _, rfl, hP, hN⟩ (hal.kept S)
  obtain ⟨sb, so, rfl, hsc⟩ := strs_get (StrsAt.keep hN (hal.kept S)) (k := n) (by rw [hnl]; exact hn)
  have hn2 : (n : Int) < (t.ns.length : Int) := by omega
  have hn0 : (0 : Int) ≤ (n : Int) := by omega
  have HB0 := Lib.hid b0
  have HB1 := Lib.hid b1
  have HU := Lib.hid hal
  have HSZ := Lib.hid hsz
  have HN := Lib.hid hn
  have H64 := Lib.hid hp64
  have HIH : Hid (∀ c ∈ kidsL t.ps n, ∀ W u, TreeAt S W u t → Calls Tryz.prog 104 #[u, .int .i64 (c : Nat)] W (GrwPost W (toRF (frT t) (rkT t) c))) := fun c hc W u hu => by
    have hk := hwf.kid n hn c hc
    exact ih c (by omega) hk.1 W u hu
  have HRF : Hid (toRF (frT t) (rkT t) n = .node (gs t.ns n) ((kidsL t.ps n).map (toRF (frT t) (rkT t)))) := toRF_eq hwf hn
  have HKL : Hid ((kidsL t.ps n).length ≤ 64) := by have := frT_kids_len t n; rw [frT_kids] at this; unfold Hid; omega
  clear hal hP hN hnl hpk ih hd hn hwf
  go_enter Tryz.func104, Tryz.ntmps104
  go_wp2_with fail
  generalize w.alloc (.cells #[.slice pp t.ps.length pc, .slice (some ⟨sb, so, none⟩) t.ns.length nc] 45) = w1 at *
  have hst := Wip.start w1 (base := w.heap.size) (by rw [HSZ.out]; omega) (gs t.ns n)
  have hup0 := Up.alloc w1 (.cells #[.string (gs t.ns n), .slice none 0 0] 123)
  have hs1 : (w1.alloc (.cells #[.string (gs t.ns n), .slice none 0 0] 123)).heap.size = w1.heap.size + 1 := World.size_alloc _ _
  refine (kidsR_t S _ _ t n (HT1.out.keep (hup0.kept S)) (by omega) HN.out).mono ?_
  rintro e w2 ⟨hu2, kvv, rfl, hki⟩
  have hu2 : Up (w1.alloc (.cells #[.string (gs t.ns n), .slice none 0 0] 123)) w2 := hu2
  obtain ⟨kp, kc, rfl, _, _⟩ := SlAt.open hki
  have hG0 : GInv w1 w.heap.size (w.heap.size + 1) (gs t.ns n) (ofNats (kidsL t.ps n)) kp kc w2 (.slice none 0 0) (((kidsL t.ps n).take 0).map (toRF (frT t) (rkT t))) := by
    rw [HSZ.out] at hst hs1
    exact ⟨hst.up hu2, hup0.trans hu2, IntsAt.sub hki fun b hb _ => ⟨by rw [hs1] at hb; omega, fun e => by cases e⟩, by rw [HSZ.out]; exact Nat.le_refl _⟩
  have HG0 := Lib.hid hG0
  clear hst hup0 hs1 hu2 hki hG0 b0 b1
  have hln : (ofNats (kidsL t.ps n)).length = (kidsL t.ps n).length := by simp [ofNats]
  rw [hln]
  obtain ⟨L, hL⟩ : ∃ L, L = kidsL t.ps n := ⟨_, rfl⟩
  rw [← hL] at HKL HIH HRF HG0 ⊢
  clear hL hln
  go_wp2_with fail
  go_loopw [7] (fun i wr => ∃ (k : Nat) (kv : Value), k ≤ L.length ∧ i = .int .i64 k ∧ Hid (GInv w1 w.heap.size (w.heap.size + 1) (gs t.ns n) (ofNats L) kp kc wr kv ((L.take k).map (toRF (frT t) (rkT t))))) (fun i _ => L.length - (intOf i).toNat)
  case atStart => exact ⟨0, _, Nat.zero_le _, rfl, HG0.out⟩
  case round =>
    obtain ⟨k, kv, hk, rfl, hG⟩ := hrel
    obtain ⟨wo, rfl⟩ : ∃ wo : World, wo = wr := ⟨_, rfl⟩
    by_cases hlt : k < L.length
    · have hc := hG.out.wip.cells
      have hkl : k < (ofNats L).length := by simp [ofNats]; exact hlt
      obtain ⟨ib, io, rfl, hic⟩ := ints_get hG.out.ints hkl
      rw [gi_ofNats hlt] at hic
      have HCM : Hid (L[k] ∈ L) := List.getElem_mem hlt
      have HTK : Hid ((L.take (k + 1)).map (toRF (frT t) (rkT t)) = (L.take k).map (toRF (frT t) (rkT t)) ++ [toRF (frT t) (rkT t) L[k]]) := by
        unfold Hid; rw [List.take_succ_eq_append_getElem hlt, List.map_append]; rfl
      have HCG : Hid (gi (ofNats L) k = (L[k] : Nat)) := gi_ofNats hlt
      generalize L[k] = c at *
      have HCALL : Hid (∀ W, Up wo W → Calls Tryz.prog 104 #[.agg #[.slice pp t.ps.length pc, .slice (some ⟨sb, so, none⟩) t.ns.length nc], .int .i64 (c : Nat)] W (GrwPost W (toRF (frT t) (rkT t) c))) := fun W hW => HIH.out c HCM.out W _ (HT1.out.keep ((hG.out.up.trans hW).kept S))
      generalize toRF (frT t) (rkT t) c = r at *
      have hk1 := hc.2.1
      have hk2 := hc.2.2.2
      have hb0 := hG.out.up.cell HB0.out
      have hb1 := hG.out.up.cell HB1.out
      have i1 : (0 : Int) ≤ (k : Int) := by omega
      have i2 : (k : Int) < (L.length : Int) := by omega
      have i3 : (k : Int) < 64 := by have := HKL.out; omega
      have HLT := Lib.hid hlt
      have HKD : Hid (∀ W, Up wo W → W.cell? ⟨w.heap.size + 1, 1, none⟩ = some kv ∧ W.cell? ⟨w.heap.size, 0, none⟩ = some (.slice pp t.ps.length pc) ∧ W.cell? ⟨w.heap.size, 1, none⟩ = some (.slice (some ⟨sb, so, none⟩) t.ns.length nc) ∧ W.cell? ⟨ib, io + k, none⟩ = some (.int .i64 (c : Nat))) := fun W hW => ⟨hW.cell hk1, hW.cell hb0, hW.cell hb1, hW.cell hic⟩
      have HGG := Lib.hid hG.out
      clear hc hkl hk hlt hG
      go_wp2_with fail
      refine region_T (by kernel_rfl) 16 (fun w' => w'.cell? ⟨w.heap.size + 1, 1, none⟩ = some kv ∧ w'.cell? ⟨w.heap.size, 0, none⟩ = some (.slice pp t.ps.length pc) ∧ w'.cell? ⟨w.heap.size, 1, none⟩ = some (.slice (some ⟨sb, so, none⟩) t.ns.length nc) ∧ w'.cell? ⟨ib, io + k, none⟩ = some (.int .i64 (c : Nat))) (HKD.out _ (drew_up wo)) (fun hS => ?_)
      simp only [List.size_toArray, List.length_cons, List.length_nil, Nat.reduceAdd, Array.replicate_succ, Array.replicate_zero, List.push_toArray, List.nil_append, List.cons_append]
      refine anyT.take (i := 0) (v := ?gv0) rfl (by kernel_rfl) (fun _ _ _ h => h) (by rfl) (fun w hSw => ?gy0) hS ?gr0
      case gy0 =>
        (try dsimp only at hSw)
        go_simp
        try with_reducible rfl
      try simp only [Act.put, List.setIfInBounds_toArray, List.set_cons_zero, List.set_cons_succ]
      refine anyT.take (i := 1) (v := ?gv1) rfl (by kernel_rfl) (fun _ _ _ h => h) (by rfl) (fun w hSw => ?gy1) hS ?gr1
      case gy1 =>
        (try dsimp only at hSw)
        go_simp
        try with_reducible rfl
      try simp only [Act.put, List.setIfInBounds_toArray, List.set_cons_zero, List.set_cons_succ]
      refine anyT.take (i := 2) (v := ?gv2) rfl (by kernel_rfl) (fun _ _ _ h => h) (by rfl) (fun w hSw => ?gy2) hS ?gr2
      case gy2 =>
        (try dsimp only at hSw)
        go_simp
        try with_reducible rfl
      try simp only [Act.put, List.setIfInBounds_toArray, List.set_cons_zero, List.set_cons_succ]
      refine anyT.take (i := 3) (v := ?gv3) rfl (by kernel_rfl) (fun _ _ _ h => h) (by rfl) (fun w hSw => ?gy3) hS ?gr3
      case gy3 =>
        (try dsimp only at hSw)
        go_simp
        try with_reducible rfl
      try simp only [Act.put, List.setIfInBounds_toArray, List.set_cons_zero, List.set_cons_succ]
      refine anyT.take (i := 4) (v := ?gv4) rfl (by kernel_rfl) (fun _ _ _ h => h) (by rfl) (fun w hSw => ?gy4) hS ?gr4
      case gy4 =>
        (try dsimp only at hSw)
        go_simp
        try with_reducible rfl
      try simp only [Act.put, List.setIfInBounds_toArray, List.set_cons_zero, List.set_cons_succ]
      refine anyT.take (i := 5) (v := ?gv5) rfl (by kernel_rfl) (fun _ _ _ h => h) (by rfl) (fun w hSw => ?gy5) hS ?gr5
      case gy5 =>
        (try dsimp only at hSw)
        go_simp
        try with_reducible rfl
      try simp only [Act.put, List.setIfInBounds_toArray, List.set_cons_zero, List.set_cons_succ]
      refine anyT.take (i := 6) (v := ?gv6) rfl (by kernel_rfl) (fun _ _ _ h => h) (by rfl) (fun w hSw => ?gy6) hS ?gr6
      case gy6 =>
        (try dsimp only at hSw)
        go_simp
        try with_reducible rfl
      try simp only [Act.put, List.setIfInBounds_toArray, List.set_cons_zero, List.set_cons_succ]
      refine anyT.take (i := 7) (v := ?gv7) rfl (by kernel_rfl) (fun _ _ _ h => h) (by rfl) (fun w hSw => ?gy7) hS ?gr7
      case gy7 =>
        (try dsimp only at hSw)
        go_simp
        try with_reducible rfl
      try simp only [Act.put, List.setIfInBounds_toArray, List.set_cons_zero, List.set_cons_succ]
      refine anyT.take (i := 8) (v := ?gv8) rfl (by kernel_rfl) (fun _ _ _ h => h) (by rfl) (fun w hSw => ?gy8) hS ?gr8
      case gy8 =>
        (try dsimp only at hSw)
        go_simp
        try with_reducible rfl
      try simp only [Act.put, List.setIfInBounds_toArray, List.set_cons_zero, List.set_cons_succ]
      refine anyT.take (i := 9) (v := ?gv9) rfl (by kernel_rfl) (fun _ _ _ h => h) (by rfl) (fun w hSw => ?gy9) hS ?gr9
      case gy9 =>
        (try dsimp only at hSw)
        go_simp
        try with_reducible rfl
      try simp only [Act.put, List.setIfInBounds_toArray, List.set_cons_zero, List.set_cons_succ]
      refine anyT.step (i := 10) rfl (by kernel_rfl) (fun K' hK => ?_)
      go_simp
      refine (HCALL.out _ (drew_up wo)).mono ?_
      rintro e w3 ⟨hu3, u, rfl, hr3⟩
      have hu3 : Up wo.drew w3 := hu3
      obtain ⟨ub, rfl⟩ := rat_ptr hr3
      have HU3 := Lib.hid ((drew_up wo).trans hu3)
      obtain ⟨vs, hvl, hown, hbs, hfar, hpush⟩ := HGG.out.push HU3.out hr3
      have HOW := Lib.hid hown
      have HBS := Lib.hid hbs
      have HFAR := Lib.hid hfar
      have HPUSH := Lib.hid hpush
      have HVL : Hid (vs.length ≤ 1000000) := by
        have := HLT.out; have := HKL.out; rw [List.length_map, List.length_take] at hvl; unfold Hid; omega
      have HCN : Hid ((w3.alloc (.cells #[.pointer (some ⟨ub, 0, none⟩)] 120)).cell? ⟨w3.heap.size, 0, none⟩ = some (.pointer (some ⟨ub, 0, none⟩))) := box1_0 _ _ _
      clear hu3 hr3 hown hbs hfar hpush hvl
      refine hK.out _ _ (fun _ => HKD.out _ HU3.out) (fun hS => ?_)
      replace hS := hS ⟨11, by decide, rfl⟩
      try simp only [List.setIfInBounds_toArray, List.set_cons_zero, List.set_cons_succ]
      refine anyT.step (i := 11) rfl (by kernel_rfl) (fun K' hK => ?_)
      go_simp
      refine hK.out _ _ (fun _ => HKD.out _ (HU3.out.trans (Up.alloc _ _))) (fun hS => ?_)
      replace hS := hS ⟨12, by decide, rfl⟩
      try simp only [List.setIfInBounds_toArray, List.set_cons_zero, List.set_cons_succ]
      refine anyT.step (i := 12) rfl (by kernel_rfl) (fun K' hK => ?_)
      refine step_app1 (by rfl) _ _ _ (by rfl) (w.heap.size + 1 + 1) 120 _ 8 Tryz.underlying121 Tryz.infoRN (by rfl) (by decide) (by rfl) HOW.out (.pointer (some ⟨ub, 0, none⟩)) w3.heap.size (by rfl) HCN.out (by rfl) HVL.out HBS.out ?_
      intro g cap w4 hown4 hg4 hor4 hbe4
      obtain ⟨q1, q2, q3, q4⟩ := HFAR.out w4 hg4
      have q5 : w4.cell? ⟨ib, io + k, none⟩ = some (.int .i64 (c : Nat)) := by rw [ints_at q4 (by simp [ofNats]; exact HLT.out), HCG.out]
      have q6 := q3 _ _ _ (by rw [HSZ.out]; omega) HB0.out
      have q7 := q3 _ _ _ (by rw [HSZ.out]; omega) HB1.out
      have HG4 := Lib.hid (HPUSH.out g cap w4 hown4 hg4 hor4)
      clear hown4 hg4 hor4 hbe4 q3 q4
      refine hK.out _ _ (fun _ => ⟨q1, q6, q7, q5⟩) (fun hS => ?_)
      replace hS := hS ⟨15, by decide, rfl⟩
      try simp only [Act.put, List.setIfInBounds_toArray, List.set_cons_zero, List.set_cons_succ]
      refine anyT.take (i := 13) (v := ?gv13) rfl (by kernel_rfl) (fun _ _ _ h => h) (by rfl) (fun w hSw => ?gy13) hS ?gr13
      case gy13 =>
        (try dsimp only at hSw)
        go_simp
        try with_reducible rfl
      try simp only [Act.put, List.setIfInBounds_toArray, List.set_cons_zero, List.set_cons_succ]
      refine anyT.take (i := 14) (v := ?gv14) rfl (by kernel_rfl) (fun _ _ _ h => h) (by rfl) (fun w hSw => ?gy14) hS ?gr14
      case gy14 =>
        (try dsimp only at hSw)
        go_simp
        try with_reducible rfl
      try simp only [Act.put, List.setIfInBounds_toArray, List.set_cons_zero, List.set_cons_succ]
      refine anyT.step (i := 15) rfl (by kernel_rfl) (fun K' hK => ?_)
      go_simp
      refine hK.out _ _ (not_more (by kernel_rfl)) (fun hS => ?_)
      refine anyT.done (by kernel_rfl) ?_
      go_wp2_with fail
      go_roundw
      case rel => exact ⟨k + 1, _, HLT.out, by go_num, by rw [HTK.out]; exact HG4.out⟩
      case measure => have := HLT.out; simp [intOf]; omega
    · obtain rfl : k = L.length := by omega
      have HGG := Lib.hid hG.out
      clear hG
      go_wp2_with fail
      go_ret
      refine ⟨HU.out.trans HGG.out.up, _, rfl, ?_⟩
      have h := HGG.out.wip.done
      rw [List.take_length] at h
      rw [HRF.out]; exact h
end Go.Proofs.YtpjijbophjdgaaaGreat
