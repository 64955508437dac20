/- The contract of layer 31's reference's number. The contract of layer 31's reference's children. The contract of layer 31's reference's grow: the rose tree of a node. An append onto a slice without room, inside a region that draws its order; a node whose list of children is laid anew. Slices of a list of children. -/
import Derived.Test.YtgjcfkadioblfaaGreatQ15
import Derived.Test.YtgjcfkadioblfaaGreatQ3
import Derived.Test.YtgjcfkadioblfaaGreatQ1
import Derived.Test.YtgjcfkadioblfaaGreatQ14
import Derived.ArgAppend
namespace Go.Proofs.YtgjcfkadioblfaaGreat
open Go.RowKit Go.Deep
def NbPost (w : World) (r : RT) (e : Ending) (w' : World) : Prop := Up w w' ∧ ∃ v, e = .returned v ∧ TreeAt (fun b => w.heap.size ≤ b) w' v (flat r)
theorem nil_app (r : RT) (p : Int) : (⟨[], []⟩ : Tre).app r p = ⟨psR r 0 p, nsR r⟩ := by simp [Tre.app]
set_option maxRecDepth 100000 in
set_option maxHeartbeats 1000000 in
theorem number_t (S : Nat → Prop) (w : World) (v : Value) (r : RT) (h : RAt S w r v) (hs : sizeR r ≤ 90000) : Calls Tryz.prog 89 #[v] w (NbPost w r) := by
  have hal := Up.alloc w (.cells #[.slice none 0 0, .slice none 0 0] 25)
  have hsz : (w.alloc (.cells #[.slice none 0 0, .slice none 0 0] 25)).heap.size = w.heap.size + 1 := World.size_alloc _ _
  have hrb := box_at (w := w) (P := .slice none 0 0) (N := .slice none 0 0) (T := 25)
  have hx : RAt (fun b => (Value.slice none 0 0).ownBlock ≠ some b ∧ (Value.slice none 0 0).ownBlock ≠ some b) (w.alloc (.cells #[.slice none 0 0, .slice none 0 0] 25)) r v := RAt.sub (fun b _ _ => ⟨fun e => (by cases e), fun e => (by cases e)⟩) r (RAt.keep (hal.kept S) r h)
  have HW := Lib.hid (with_t (w.heap.size + 1) (sizeR r) r (Nat.le_refl _) (w.alloc (.cells #[.slice none 0 0, .slice none 0 0] 25)) (.slice none 0 0) (.slice none 0 0) v ⟨[], []⟩ (-1) ⟨Owns.nil _ _ _, Owns.nil _ _ _, fun b hb => by cases hb⟩ (by omega) rfl (by simp; omega) hx)
  have HU := Lib.hid hal
  have HRB := Lib.hid hrb
  have HSZ := Lib.hid hsz
  clear hal hrb hsz h hx
  go_enter Tryz.func89, Tryz.ntmps89
  go_wp2_with fail
  generalize w.alloc (.cells #[.slice none 0 0, .slice none 0 0] 25) = w1 at *
  refine HW.out.mono ?_
  rintro e w2 ⟨P2, N2, rfl, hT, hK⟩
  rw [nil_app] at hT
  obtain ⟨p2, c2, rfl, _, _⟩ := SlAt.open hT.pown.ints
  obtain ⟨q2, e2, rfl, _, _⟩ := SlAt.open hT.nown.strs
  have hu : Up w1 w2 := ⟨hK.os, hK.tape, hK.output, hK.size, fun b hb => hK.block b hb (by omega) (fun e => by cases e) (fun e => by cases e)⟩
  have hb2 := (Below.block hu w.heap.size (by rw [HSZ.out]; omega)).trans HRB.out
  obtain ⟨r0, r1, r2, r3⟩ : w2.cell? ⟨w.heap.size, 0, none⟩ = some (.slice none 0 0) ∧ w2.cell? ⟨w.heap.size, 1, none⟩ = some (.slice none 0 0) ∧ w2.frozen? ⟨w.heap.size, 0, none⟩ = false ∧ w2.frozen? ⟨w.heap.size, 1, none⟩ = false := by
    refine ⟨?_, ?_, ?_, ?_⟩ <;> simp [World.cell?, World.frozen?, hb2]
  have HST := Lib.hid (store_two (w := w) (p := .slice p2 (psR r 0 (-1)).length c2) (q := .slice q2 (nsR r).length e2) hb2 (Nat.le_refl _) (HU.out.trans hu))
  have HP := Lib.hid hT.pown.ints
  have HN := Lib.hid hT.nown.strs
  clear hT hK hu hb2
  go_wp2_with fail
  obtain ⟨s1, s2, s3, s4⟩ := HST.out
  refine ⟨rfl, .agg #[.slice p2 (psR r 0 (-1)).length c2, .slice q2 (nsR r).length e2], by simp [results, Tryz.results89, go_sem, s2, s3], ?_⟩
  exact ⟨s1, _, rfl, _, _, rfl, (IntsAt.keep HP.out fun b hb _ => s4 b (by have : w.heap.size + 1 ≤ b := hb; omega)).sub fun b hb _ => by have : w.heap.size + 1 ≤ b := hb; omega, (StrsAt.keep HN.out fun b hb _ => s4 b (by have : w.heap.size + 1 ≤ b := hb; omega)).sub fun b hb _ => by have : w.heap.size + 1 ≤ b := hb; omega⟩
end Go.Proofs.YtgjcfkadioblfaaGreat
namespace Go.Proofs.YtgjcfkadioblfaaGreat
open Go.RowKit Go.Deep
def KdPost (w : World) (l : List Nat) (e : Ending) (w' : World) : Prop := Below w.heap.size w w' ∧ ∃ v, e = .returned v ∧ IntsAt (fun b => w.heap.size ≤ b) w' v (ofNats l)
set_option maxRecDepth 100000 in
set_option maxHeartbeats 800000 in
theorem kidsR_t (S : Nat → Prop) (w : World) (v : Value) (t : Tre) (n : Nat) (h : TreeAt S w v t) (hp : t.ps.length ≤ 1000000) (hn : n < t.ps.length) :
    Calls Tryz.prog 96 #[v, .int .i64 n] w (KdPost w (kidsL t.ps n)) := by
  obtain ⟨P, N, rfl, hP, hN⟩ := h
  have hb0 : Below w.heap.size w (w.alloc (.cells #[P, N] 25)) := (Below.refl _ _).alloc (Nat.le_refl _) _
  have hP1 := hP.keep (Kept.below hb0)
  have hcp : (w.alloc (.cells #[P, N] 25)).cell? ⟨w.heap.size, 0, none⟩ = some P := by simp [World.cell?_alloc_new]
  obtain ⟨ps, ns⟩ := t
  simp only at *
  obtain ⟨p, cap, rfl, hcap, HP⟩ := SlAt.open hP1
  have hsz : (w.alloc (.cells #[.slice p ps.length cap, N] 25)).heap.size = w.heap.size + 1 := by simp
  have HS := Lib.hid hsz
  have HB0 := Lib.hid hb0
  have HCP := Lib.hid hcp
  have HPP := Lib.hid HP
  clear HP hP1 hP hN hb0 hcp hsz
  go_enter Tryz.func96, Tryz.ntmps96
  go_wp2_with fail
  generalize hw0 : w.alloc (.cells #[.slice p ps.length cap, N] 25) = w0 at *
  clear hw0
  go_loopw [5, 6] (fun v i wr => ∃ k : Nat, n + 1 ≤ k ∧ k ≤ ps.length ∧ i = .int .i64 k ∧ Owns (w.heap.size + 1) 3 wr v ((ofNats (kidsK ps n k)).map (Value.int .i64)) ∧ Below (w.heap.size + 1) w0 wr) (fun _ i _ => ps.length - (intOf i).toNat)
  case atStart => exact ⟨n + 1, Nat.le_refl _, by omega, by go_num, by rw [kidsK_start]; exact Owns.nil _ _ _, Below.refl _ _⟩
  case round =>
    obtain ⟨k, hk1, hk, rfl, hown, hbr⟩ := hrel
    have hcp : wr.cell? ⟨w.heap.size, 0, none⟩ = some (.slice p ps.length cap) := (hbr.cell (p := ⟨w.heap.size, 0, none⟩) (by simp)).trans HCP.out
    by_cases hlt : k < ps.length
    · obtain ⟨b, off, rfl, hc0⟩ := HPP.out k hlt
      have hc : wr.cell? ⟨b, off + k, none⟩ = some (.int .i64 (gi ps k)) := by
        rw [hbr.cell (p := ⟨b, off + k, none⟩) (by have := World.block_lt_of_cell? _ _ hc0; have := HS.out; simp at *; omega)]; exact hc0
      have hsz : w.heap.size + 1 ≤ wr.heap.size := by have := hbr.size; have := HS.out; omega
      have hsucc := kidsK_succ ps n k
      have HSU := Lib.hid hsucc
      have HLL : Hid (((ofNats (kidsK ps n k)).map (Value.int .i64)).length ≤ 1000000) := by
        have := kidsK_len ps n k
        unfold Hid ofNats; rw [List.length_map, List.length_map]; omega
      clear hc0 hsucc HPP
      generalize hgk : gi ps k = x at *
      clear hgk
      by_cases hx : x = n
      · have hx1 : (x == (n : Int)) = true := by simp [hx]
        have HX : Hid (n < k ∧ x = n) := ⟨by omega, hx⟩
        clear hx
        go_wp2_with (at_builtin; refine wpList_app1 wr rfl _ _ 22 rfl (w.heap.size + 1) 3 _ 8 Tryz.underlying22 Tryz.infoI rfl (by decide) hown rfl _ rfl rfl HLL.out hsz ?_; intro g cap w2 hown1 hg1 hb1)
        go_roundw
        case rel => exact ⟨k + 1, by omega, by omega, by go_num, by rw [HSU.out, if_pos HX.out, ofNats_append, List.map_append]; rw [List.length_map] at hown1; exact hown1, hbr.trans hb1⟩
        case measure => simp [intOf]; omega
      · have hx1 : (x == (n : Int)) = false := by simpa using hx
        have HX : Hid ¬ (n < k ∧ x = n) := fun h => hx h.2
        clear hx
        go_wp2_with fail
        go_roundw
        case rel => exact ⟨k + 1, by omega, by omega, by go_num, by rw [HSU.out, if_neg HX.out, List.append_nil]; exact hown, hbr⟩
        case measure => simp [intOf]; omega
    · obtain rfl : k = ps.length := by omega
      clear hlt hk
      go_wp2_with fail
      go_ret
      exact ⟨HB0.out.trans (hbr.mono (by omega)), _, rfl, hown.ints.sub fun b hb _ => by omega⟩
end Go.Proofs.YtgjcfkadioblfaaGreat
namespace Go.Proofs.YtgjcfkadioblfaaGreat
open Go.RowKit Go.Deep
theorem Tryz.infoRN : (Tryz.prog.info? 102).map (fun i => (i.zero, i.size, i.bytes)) = some (some (.pointer none), 1, 8) := by kernel_rfl
/-- A node under way, beside a list of numbers. -/
structure GInv (w1 : World) (base B : Nat) (nm : ByteArray) (kl : List Int) (kp : Option Addr) (kc : Nat) (wr : World) (kv : Value) (rs : List RT) : Prop where
  wip : Wip base B wr nm kv rs
  up : Up w1 wr
  ints : IntsAt (fun b => b ≠ B ∧ kv.ownBlock ≠ some b) wr (.slice kp kl.length kc) kl
  lo : w1.heap.size ≤ B
theorem drew_up (w : World) : Up w w.drew := Up.drewN w 1
theorem GInv.push {w1 : World} {base B : Nat} {nm : ByteArray} {kl : List Int} {kp : Option Addr} {kc : Nat} {wr w2 : World} {kv : Value} {rs : List RT} (h : GInv w1 base B nm kl kp kc wr kv rs) {r : RT} {u : Value} (hu : Up wr w2) (hr : RAt (fun b => wr.heap.size ≤ b) w2 r u) :
    ∃ vs : List Value, vs.length = rs.length ∧ Owns (B + 1) 102 (w2.alloc (.cells #[u] 102)) kv vs ∧ B + 1 ≤ (w2.alloc (.cells #[u] 102)).heap.size ∧
      (∀ W, (w2.alloc (.cells #[u] 102)).grownBy W kv.ownBlock → W.cell? ⟨B, 1, none⟩ = some kv ∧ W.frozen? ⟨B, 1, none⟩ = false ∧ (∀ b o v, b < w1.heap.size → w1.cell? ⟨b, o, none⟩ = some v → W.cell? ⟨b, o, none⟩ = some v) ∧ IntsAt (fun b => b ≠ B ∧ kv.ownBlock ≠ some b) W (.slice kp kl.length kc) kl) ∧
      ∀ g c W, Owns (B + 1) 102 W (.slice (some ⟨g, 0, none⟩) (vs.length + 1) c) (vs ++ [u]) → (w2.alloc (.cells #[u] 102)).grownBy W kv.ownBlock → (kv.ownBlock = some g ∨ g = (w2.alloc (.cells #[u] 102)).heap.size) →
        GInv w1 base B nm kl kp kc (W.setCell ⟨B, 1, none⟩ (.slice (some ⟨g, 0, none⟩) (vs.length + 1) c)) (.slice (some ⟨g, 0, none⟩) (vs.length + 1) c) (rs ++ [r]) := by
  have hal := Up.alloc w2 (.cells #[u] 102)
  have hW := (h.wip.up hu).up hal
  have hBl := h.wip.lt
  have hsz := hu.size
  have hsa : (w2.alloc (.cells #[u] 102)).heap.size = w2.heap.size + 1 := World.size_alloc _ _
  obtain ⟨vs, ho, hv⟩ := hW.kids
  obtain ⟨vs0, ho0, _⟩ := h.wip.kids
  have hkb : ∀ b, kv.ownBlock = some b → b < wr.heap.size ∧ B < b := fun b hb => ⟨(ownBlock_lt ho0 hb).2, by have := (ownBlock_lt ho0 hb).1; omega⟩
  have hi2 : IntsAt (fun b => b ≠ B ∧ kv.ownBlock ≠ some b) (w2.alloc (.cells #[u] 102)) (.slice kp kl.length kc) kl := IntsAt.keep h.ints ((hu.trans hal).kept _)
  have hi3 : ∀ W, (w2.alloc (.cells #[u] 102)).grownBy W kv.ownBlock → IntsAt (fun b => b ≠ B ∧ kv.ownBlock ≠ some b) W (.slice kp kl.length kc) kl := fun W hg =>
    IntsAt.keep hi2 fun b hb hl => hg.block b hl fun e => hb.2 e.symm
  refine ⟨vs, RsAt.len rs hv, ho, by omega, fun W hg => ?_, fun g c W hown hg hor => ?_⟩
  · have hc := hW.cells
    have hBo : some B ≠ kv.ownBlock := fun e => by have := (hkb B e.symm).2; omega
    have hBa : B < (w2.alloc (.cells #[u] 102)).heap.size := by omega
    refine ⟨?_, ?_, fun b o v hb hcb => ?_, hi3 W hg⟩
    · rw [hg.cell_far (a := ⟨B, 1, none⟩) hBa hBo]; exact hc.2.1
    · rw [hg.frozen_far (a := ⟨B, 1, none⟩) hBa hBo]; exact hc.2.2.2
    · have h1 := ((h.up.trans hu).trans hal)
      have hlo := h.lo
      rw [hg.cell_far _ (Nat.lt_of_lt_of_le hb h1.size) (fun e => by have := (hkb b e.symm).2; omega)]
      exact h1.cell hcb
  · have hor2 : ∀ b, (Value.slice (some ⟨g, 0, none⟩) (vs.length + 1) c).ownBlock = some b → kv.ownBlock = some b ∨ (w2.alloc (.cells #[u] 102)).heap.size ≤ b := fun b hb => by
      injection hb with hb
      have hb : g = b := hb
      subst hb
      rcases hor with h1 | h1
      · exact .inl h1
      · exact .inr (by omega)
    have hlo := h.lo
    have hw := h.wip.lo
    refine ⟨hW.push (RAt.keep (hal.kept _) r hr) (by omega) hBl (fun b hb => (hkb b hb).1) hv hown hg hor2, ?_, ?_, h.lo⟩
    · have h1 := (h.up.trans hu).trans hal
      refine ⟨hg.os.trans h1.os, hg.tape.trans h1.tape, hg.output.trans h1.output, ?_, fun b hb => ?_⟩
      · have := h1.size; have := hg.size; simp only [World.size_setCell]; omega
      · rw [blk_setCell_other _ _ _ _ (by omega : b ≠ B), hg.block b (Nat.lt_of_lt_of_le hb h1.size) (fun e => by have := (hkb b e.symm).2; omega)]
        exact h1.block b hb
    · have h2 := hi3 W hg
      have h3 : IntsAt (fun b => b ≠ B ∧ kv.ownBlock ≠ some b ∧ (Value.slice (some ⟨g, 0, none⟩) (vs.length + 1) c).ownBlock ≠ some b) (w2.alloc (.cells #[u] 102)) (.slice kp kl.length kc) kl := IntsAt.sub hi2 fun b hb hl => ⟨hb.1, hb.2, fun e => by
        rcases hor2 b e with h5 | h5
        · exact hb.2 h5
        · omega⟩
      have h4 := IntsAt.keep (w' := W.setCell ⟨B, 1, none⟩ (.slice (some ⟨g, 0, none⟩) (vs.length + 1) c)) h3 fun b hb hl => (blk_setCell_other _ _ _ _ hb.1).trans (hg.block b hl fun e => hb.2.1 e.symm)
      exact IntsAt.sub h4 fun b hb _ => ⟨hb.1, hb.2.2⟩
theorem ints_at {S : Nat → Prop} {w : World} {b off n cap : Nat} {xs : List Int} (h : IntsAt S w (.slice (some ⟨b, off, none⟩) n cap) xs) {k : Nat} (hk : k < xs.length) : w.cell? ⟨b, off + k, none⟩ = some (.int .i64 (gi xs k)) := by
  obtain ⟨b', o', e, hc⟩ := ints_get h hk
  injection e with e
  injection e with e1 e2
  subst e1; subst e2; exact hc
def GrwPost (w : World) (r : RT) (e : Ending) (w' : World) : Prop := Up w w' ∧ ∃ u, e = .returned u ∧ RAt (fun b => w.heap.size ≤ b) w' r u
theorem gi_ofNats {l : List Nat} {k : Nat} (h : k < l.length) : gi (ofNats l) k = (l[k] : Nat) := by simp [gi, ofNats, h]
theorem rat_ptr {S : Nat → Prop} {w : World} {r : RT} {u : Value} (h : RAt S w r u) : ∃ b, u = .pointer (some ⟨b, 0, none⟩) := by
  obtain ⟨b, _, _, _, e, _⟩ := h.open
  exact ⟨b, e⟩
set_option maxRecDepth 100000 in
set_option maxHeartbeats 4000000 in
theorem growR_t (S : Nat → Prop) (t : Tre) (ht : treeErr t = 0) : ∀ (d n : Nat), rkT t n ≤ d → n < t.ps.length → ∀ (w : World) (v : Value), TreeAt S w v t → Calls Tryz.prog 83 #[v, .int .i64 n] w (GrwPost w (toRF (frT t) (rkT t) n)) := by
  intro d
  induction d with
  | zero => intro n hd hn; unfold rkT at hd; omega
  | succ d ih =>
  intro n hd hn w v hT
  obtain ⟨_, hp64, hnl, hpk, _⟩ := treeErr_zero ht
  have hwf := (frT_arb ht).wf
  obtain ⟨P, N, rfl, hP, hN⟩ := hT
  obtain ⟨pp, pc, rfl, _, _⟩ := SlAt.open hP
  obtain ⟨np, nc, rfl, _, _⟩ := SlAt.open hN
  have hP : IntsAt S w (.slice pp t.ps.length pc) t.ps := hP
  have hN : StrsAt S w (.slice np t.ns.length nc) t.ns := hN
  have hal := Up.alloc w (.cells #[.slice pp t.ps.length pc, .slice np t.ns.length nc] 25)
  have b0 := box2_0 w (.slice pp t.ps.length pc) (.slice np t.ns.length nc) 25
  have b1 := box2_1 w (.slice pp t.ps.length pc) (.slice np t.ns.length nc) 25
  have hsz : (w.alloc (.cells #[.slice pp t.ps.length pc, .slice np t.ns.length nc] 25)).heap.size = w.heap.size + 1 := World.size_alloc _ _
  have HT1 : Hid (TreeAt S (w.alloc (.cells #[.slice pp t.ps.length pc, .slice np t.ns.length nc] 25)) (.agg #[.slice pp t.ps.length pc, .slice np t.ns.length nc]) t) := TreeAt.keep ⟨_, _, rfl, hP, hN⟩ (hal.kept S)
  obtain ⟨sb, so, rfl, hsc⟩ := strs_get (StrsAt.keep hN (hal.kept S)) (k := n) (by rw [hnl]; exact hn)
  have hn2 : (n : Int) < (t.ns.length : Int) := by omega
  have hn0 : (0 : Int) ≤ (n : Int) := by omega
  have HB0 := Lib.hid b0
  have HB1 := Lib.hid b1
  have HU := Lib.hid hal
  have HSZ := Lib.hid hsz
  have HN := Lib.hid hn
  have H64 := Lib.hid hp64
  have HIH : Hid (∀ c ∈ kidsL t.ps n, ∀ W u, TreeAt S W u t → Calls Tryz.prog 83 #[u, .int .i64 (c : Nat)] W (GrwPost W (toRF (frT t) (rkT t) c))) := fun c hc W u hu => by
    have hk := hwf.kid n hn c hc
    exact ih c (by omega) hk.1 W u hu
  have HRF : Hid (toRF (frT t) (rkT t) n = .node (gs t.ns n) ((kidsL t.ps n).map (toRF (frT t) (rkT t)))) := toRF_eq hwf hn
  have HKL : Hid ((kidsL t.ps n).length ≤ 64) := by have := frT_kids_len t n; rw [frT_kids] at this; unfold Hid; omega
  clear hal hP hN hnl hpk ih hd hn hwf
  go_enter Tryz.func83, Tryz.ntmps83
  go_wp2_with fail
  generalize w.alloc (.cells #[.slice pp t.ps.length pc, .slice (some ⟨sb, so, none⟩) t.ns.length nc] 25) = w1 at *
  have hst := Wip.start w1 (base := w.heap.size) (by rw [HSZ.out]; omega) (gs t.ns n)
  have hup0 := Up.alloc w1 (.cells #[.string (gs t.ns n), .slice none 0 0] 105)
  have hs1 : (w1.alloc (.cells #[.string (gs t.ns n), .slice none 0 0] 105)).heap.size = w1.heap.size + 1 := World.size_alloc _ _
  refine (kidsR_t S _ _ t n (HT1.out.keep (hup0.kept S)) (by omega) HN.out).mono ?_
  rintro e w2 ⟨hu2, kvv, rfl, hki⟩
  have hu2 : Up (w1.alloc (.cells #[.string (gs t.ns n), .slice none 0 0] 105)) w2 := hu2
  obtain ⟨kp, kc, rfl, _, _⟩ := SlAt.open hki
  have hG0 : GInv w1 w.heap.size (w.heap.size + 1) (gs t.ns n) (ofNats (kidsL t.ps n)) kp kc w2 (.slice none 0 0) (((kidsL t.ps n).take 0).map (toRF (frT t) (rkT t))) := by
    rw [HSZ.out] at hst hs1
    exact ⟨hst.up hu2, hup0.trans hu2, IntsAt.sub hki fun b hb _ => ⟨by rw [hs1] at hb; omega, fun e => by cases e⟩, by rw [HSZ.out]; exact Nat.le_refl _⟩
  have HG0 := Lib.hid hG0
  clear hst hup0 hs1 hu2 hki hG0 b0 b1
  have hln : (ofNats (kidsL t.ps n)).length = (kidsL t.ps n).length := by simp [ofNats]
  rw [hln]
  obtain ⟨L, hL⟩ : ∃ L, L = kidsL t.ps n := ⟨_, rfl⟩
  rw [← hL] at HKL HIH HRF HG0 ⊢
  clear hL hln
  go_wp2_with fail
  go_loopw [7] (fun i wr => ∃ (k : Nat) (kv : Value), k ≤ L.length ∧ i = .int .i64 k ∧ Hid (GInv w1 w.heap.size (w.heap.size + 1) (gs t.ns n) (ofNats L) kp kc wr kv ((L.take k).map (toRF (frT t) (rkT t))))) (fun i _ => L.length - (intOf i).toNat)
  case atStart => exact ⟨0, _, Nat.zero_le _, rfl, HG0.out⟩
  case round =>
    obtain ⟨k, kv, hk, rfl, hG⟩ := hrel
    obtain ⟨wo, rfl⟩ : ∃ wo : World, wo = wr := ⟨_, rfl⟩
    by_cases hlt : k < L.length
    · have hc := hG.out.wip.cells
      have hkl : k < (ofNats L).length := by simp [ofNats]; exact hlt
      obtain ⟨ib, io, rfl, hic⟩ := ints_get hG.out.ints hkl
      rw [gi_ofNats hlt] at hic
      have HCM : Hid (L[k] ∈ L) := List.getElem_mem hlt
      have HTK : Hid ((L.take (k + 1)).map (toRF (frT t) (rkT t)) = (L.take k).map (toRF (frT t) (rkT t)) ++ [toRF (frT t) (rkT t) L[k]]) := by
        unfold Hid; rw [List.take_succ_eq_append_getElem hlt, List.map_append]; rfl
      have HCG : Hid (gi (ofNats L) k = (L[k] : Nat)) := gi_ofNats hlt
      generalize L[k] = c at *
      have HCALL : Hid (∀ W, Up wo W → Calls Tryz.prog 83 #[.agg #[.slice pp t.ps.length pc, .slice (some ⟨sb, so, none⟩) t.ns.length nc], .int .i64 (c : Nat)] W (GrwPost W (toRF (frT t) (rkT t) c))) := fun W hW => HIH.out c HCM.out W _ (HT1.out.keep ((hG.out.up.trans hW).kept S))
      generalize toRF (frT t) (rkT t) c = r at *
      have hk1 := hc.2.1
      have hk2 := hc.2.2.2
      have hb0 := hG.out.up.cell HB0.out
      have hb1 := hG.out.up.cell HB1.out
      have i1 : (0 : Int) ≤ (k : Int) := by omega
      have i2 : (k : Int) < (L.length : Int) := by omega
      have i3 : (k : Int) < 64 := by have := HKL.out; omega
      have HLT := Lib.hid hlt
      have HKD : Hid (∀ W, Up wo W → W.cell? ⟨w.heap.size + 1, 1, none⟩ = some kv ∧ W.cell? ⟨w.heap.size, 0, none⟩ = some (.slice pp t.ps.length pc) ∧ W.cell? ⟨w.heap.size, 1, none⟩ = some (.slice (some ⟨sb, so, none⟩) t.ns.length nc) ∧ W.cell? ⟨ib, io + k, none⟩ = some (.int .i64 (c : Nat))) := fun W hW => ⟨hW.cell hk1, hW.cell hb0, hW.cell hb1, hW.cell hic⟩
      have HGG := Lib.hid hG.out
      clear hc hkl hk hlt hG
      go_wp2_with fail
      refine region_T (by kernel_rfl) 16 (fun w' => w'.cell? ⟨w.heap.size + 1, 1, none⟩ = some kv ∧ w'.cell? ⟨w.heap.size, 0, none⟩ = some (.slice pp t.ps.length pc) ∧ w'.cell? ⟨w.heap.size, 1, none⟩ = some (.slice (some ⟨sb, so, none⟩) t.ns.length nc) ∧ w'.cell? ⟨ib, io + k, none⟩ = some (.int .i64 (c : Nat))) (HKD.out _ (drew_up wo)) (fun hS => ?_)
      simp only [List.size_toArray, List.length_cons, List.length_nil, Nat.reduceAdd, Array.replicate_succ, Array.replicate_zero, List.push_toArray, List.nil_append, List.cons_append]
      refine anyT.take (i := 0) (v := ?gv0) rfl (by kernel_rfl) (fun _ _ _ h => h) (by rfl) (fun w hSw => ?gy0) hS ?gr0
      case gy0 =>
        (try dsimp only at hSw)
        go_simp
        try with_reducible rfl
      try simp only [Act.put, List.setIfInBounds_toArray, List.set_cons_zero, List.set_cons_succ]
      refine anyT.take (i := 1) (v := ?gv1) rfl (by kernel_rfl) (fun _ _ _ h => h) (by rfl) (fun w hSw => ?gy1) hS ?gr1
      case gy1 =>
        (try dsimp only at hSw)
        go_simp
        try with_reducible rfl
      try simp only [Act.put, List.setIfInBounds_toArray, List.set_cons_zero, List.set_cons_succ]
      refine anyT.take (i := 2) (v := ?gv2) rfl (by kernel_rfl) (fun _ _ _ h => h) (by rfl) (fun w hSw => ?gy2) hS ?gr2
      case gy2 =>
        (try dsimp only at hSw)
        go_simp
        try with_reducible rfl
      try simp only [Act.put, List.setIfInBounds_toArray, List.set_cons_zero, List.set_cons_succ]
      refine anyT.take (i := 3) (v := ?gv3) rfl (by kernel_rfl) (fun _ _ _ h => h) (by rfl) (fun w hSw => ?gy3) hS ?gr3
      case gy3 =>
        (try dsimp only at hSw)
        go_simp
        try with_reducible rfl
      try simp only [Act.put, List.setIfInBounds_toArray, List.set_cons_zero, List.set_cons_succ]
      refine anyT.take (i := 4) (v := ?gv4) rfl (by kernel_rfl) (fun _ _ _ h => h) (by rfl) (fun w hSw => ?gy4) hS ?gr4
      case gy4 =>
        (try dsimp only at hSw)
        go_simp
        try with_reducible rfl
      try simp only [Act.put, List.setIfInBounds_toArray, List.set_cons_zero, List.set_cons_succ]
      refine anyT.take (i := 5) (v := ?gv5) rfl (by kernel_rfl) (fun _ _ _ h => h) (by rfl) (fun w hSw => ?gy5) hS ?gr5
      case gy5 =>
        (try dsimp only at hSw)
        go_simp
        try with_reducible rfl
      try simp only [Act.put, List.setIfInBounds_toArray, List.set_cons_zero, List.set_cons_succ]
      refine anyT.take (i := 6) (v := ?gv6) rfl (by kernel_rfl) (fun _ _ _ h => h) (by rfl) (fun w hSw => ?gy6) hS ?gr6
      case gy6 =>
        (try dsimp only at hSw)
        go_simp
        try with_reducible rfl
      try simp only [Act.put, List.setIfInBounds_toArray, List.set_cons_zero, List.set_cons_succ]
      refine anyT.take (i := 7) (v := ?gv7) rfl (by kernel_rfl) (fun _ _ _ h => h) (by rfl) (fun w hSw => ?gy7) hS ?gr7
      case gy7 =>
        (try dsimp only at hSw)
        go_simp
        try with_reducible rfl
      try simp only [Act.put, List.setIfInBounds_toArray, List.set_cons_zero, List.set_cons_succ]
      refine anyT.take (i := 8) (v := ?gv8) rfl (by kernel_rfl) (fun _ _ _ h => h) (by rfl) (fun w hSw => ?gy8) hS ?gr8
      case gy8 =>
        (try dsimp only at hSw)
        go_simp
        try with_reducible rfl
      try simp only [Act.put, List.setIfInBounds_toArray, List.set_cons_zero, List.set_cons_succ]
      refine anyT.take (i := 9) (v := ?gv9) rfl (by kernel_rfl) (fun _ _ _ h => h) (by rfl) (fun w hSw => ?gy9) hS ?gr9
      case gy9 =>
        (try dsimp only at hSw)
        go_simp
        try with_reducible rfl
      try simp only [Act.put, List.setIfInBounds_toArray, List.set_cons_zero, List.set_cons_succ]
      refine anyT.step (i := 10) rfl (by kernel_rfl) (fun K' hK => ?_)
      go_simp
      refine (HCALL.out _ (drew_up wo)).mono ?_
      rintro e w3 ⟨hu3, u, rfl, hr3⟩
      have hu3 : Up wo.drew w3 := hu3
      obtain ⟨ub, rfl⟩ := rat_ptr hr3
      have HU3 := Lib.hid ((drew_up wo).trans hu3)
      obtain ⟨vs, hvl, hown, hbs, hfar, hpush⟩ := HGG.out.push HU3.out hr3
      have HOW := Lib.hid hown
      have HBS := Lib.hid hbs
      have HFAR := Lib.hid hfar
      have HPUSH := Lib.hid hpush
      have HVL : Hid (vs.length ≤ 1000000) := by
        have := HLT.out; have := HKL.out; rw [List.length_map, List.length_take] at hvl; unfold Hid; omega
      have HCN : Hid ((w3.alloc (.cells #[.pointer (some ⟨ub, 0, none⟩)] 102)).cell? ⟨w3.heap.size, 0, none⟩ = some (.pointer (some ⟨ub, 0, none⟩))) := box1_0 _ _ _
      clear hu3 hr3 hown hbs hfar hpush hvl
      refine hK.out _ _ (fun _ => HKD.out _ HU3.out) (fun hS => ?_)
      replace hS := hS ⟨11, by decide, rfl⟩
      try simp only [List.setIfInBounds_toArray, List.set_cons_zero, List.set_cons_succ]
      refine anyT.step (i := 11) rfl (by kernel_rfl) (fun K' hK => ?_)
      go_simp
      refine hK.out _ _ (fun _ => HKD.out _ (HU3.out.trans (Up.alloc _ _))) (fun hS => ?_)
      replace hS := hS ⟨12, by decide, rfl⟩
      try simp only [List.setIfInBounds_toArray, List.set_cons_zero, List.set_cons_succ]
      refine anyT.step (i := 12) rfl (by kernel_rfl) (fun K' hK => ?_)
      refine step_app1 (by rfl) _ _ _ (by rfl) (w.heap.size + 1 + 1) 102 _ 8 Tryz.underlying103 Tryz.infoRN (by rfl) (by decide) (by rfl) HOW.out (.pointer (some ⟨ub, 0, none⟩)) w3.heap.size (by rfl) HCN.out (by rfl) HVL.out HBS.out ?_
      intro g cap w4 hown4 hg4 hor4 hbe4
      obtain ⟨q1, q2, q3, q4⟩ := HFAR.out w4 hg4
      have q5 : w4.cell? ⟨ib, io + k, none⟩ = some (.int .i64 (c : Nat)) := by rw [ints_at q4 (by simp [ofNats]; exact HLT.out), HCG.out]
      have q6 := q3 _ _ _ (by rw [HSZ.out]; omega) HB0.out
      have q7 := q3 _ _ _ (by rw [HSZ.out]; omega) HB1.out
      have HG4 := Lib.hid (HPUSH.out g cap w4 hown4 hg4 hor4)
      clear hown4 hg4 hor4 hbe4 q3 q4
      refine hK.out _ _ (fun _ => ⟨q1, q6, q7, q5⟩) (fun hS => ?_)
      replace hS := hS ⟨15, by decide, rfl⟩
      try simp only [Act.put, List.setIfInBounds_toArray, List.set_cons_zero, List.set_cons_succ]
      refine anyT.take (i := 13) (v := ?gv13) rfl (by kernel_rfl) (fun _ _ _ h => h) (by rfl) (fun w hSw => ?gy13) hS ?gr13
      case gy13 =>
        (try dsimp only at hSw)
        go_simp
        try with_reducible rfl
      try simp only [Act.put, List.setIfInBounds_toArray, List.set_cons_zero, List.set_cons_succ]
      refine anyT.take (i := 14) (v := ?gv14) rfl (by kernel_rfl) (fun _ _ _ h => h) (by rfl) (fun w hSw => ?gy14) hS ?gr14
      case gy14 =>
        (try dsimp only at hSw)
        go_simp
        try with_reducible rfl
      try simp only [Act.put, List.setIfInBounds_toArray, List.set_cons_zero, List.set_cons_succ]
      refine anyT.step (i := 15) rfl (by kernel_rfl) (fun K' hK => ?_)
      go_simp
      refine hK.out _ _ (not_more (by kernel_rfl)) (fun hS => ?_)
      refine anyT.done (by kernel_rfl) ?_
      go_wp2_with fail
      go_roundw
      case rel => exact ⟨k + 1, _, HLT.out, by go_num, by rw [HTK.out]; exact HG4.out⟩
      case measure => have := HLT.out; simp [intOf]; omega
    · obtain rfl : k = L.length := by omega
      have HGG := Lib.hid hG.out
      clear hG
      go_wp2_with fail
      go_ret
      refine ⟨HU.out.trans HGG.out.up, _, rfl, ?_⟩
      have h := HGG.out.wip.done
      rw [List.take_length] at h
      rw [HRF.out]; exact h
end Go.Proofs.YtgjcfkadioblfaaGreat
namespace Go.Proofs.YtgjcfkadioblfaaGreat
open Go.RowKit Go.Deep
section
variable {P : Program} {ops : Array Oper} {o : Oper} {a : Act} {w : World} {K : Act → World → Prop} {Q : Exit → Act → World → Prop} {E : Prop}
/-- 'append(s, x..)', s full. -/
theorem step_appF (hgd : o.guard = none) (s x : Operand) (t : TypeId) (ho : o.op = .call { callee := .builtin .append, args := #[s, x], argTypes := #[t, t] })
    (e : TypeId) (z : Value) (bytes : Nat) (ht : P.underlying t = some (.slice e)) (hinfo : (P.info? e).map (fun i => (i.zero, i.size, i.bytes)) = some (some z, 1, bytes))
    (hz1 : z.cells.size = 1) (hb8 : bytes ≤ 64) {ao : Option Addr} {n : Nat} {olds : List Value} (hs : a.eval s = .slice ao n n) (hnone : ao = none → n = 0) (hlo : olds.length = n) (holds : ∀ b, ao = some b → ∀ j u, olds[j]? = some u → w.cell? (b.add j) = some u)
    {ad : Addr} {m c : Nat} {news : List Value} (hx : a.eval x = .slice (some ad) m c) (hl : news.length = m) (hnews : ∀ j u, news[j]? = some u → w.cell? (ad.add j) = some u) (h1 : ∀ u ∈ news, u.oneCell' = true) (hm : 0 < m) (hn : n + m ≤ 1000000)
    (h : ∀ g cap w', Owns w.heap.size e w' (.slice (some ⟨g, 0, none⟩) (n + m) cap) (olds ++ news) → Up w w' → K (a.put o.dst (.slice (some ⟨g, 0, none⟩) (n + m) cap)) w') :
    if Region.wanted o (yielded ops a.tmps) = true then Oper.wp P o a w K Q else E := by
  have hw : Region.wanted o (yielded ops a.tmps) = true := by simp [Region.wanted, hgd]
  rw [if_pos hw]
  obtain ⟨i, hi, hzz⟩ := Option.map_eq_some_iff.1 hinfo
  simp only [Prod.mk.injEq] at hzz
  obtain ⟨hz, hs1, hb⟩ := hzz
  have hb1 : n + m ≤ maxLen := by unfold maxLen; omega
  have hb2 : (n + m) * bytes ≤ 140737488355328 := by
    have : (n + m) * bytes ≤ (n + m) * 64 := Nat.mul_le_mul_left _ hb8
    omega
  have fin : ∀ v' w', w'.ownsRow w.heap.size e 1 v' (n + m) (olds ++ news) → w.grownBy w' none → K (a.put o.dst v') w' := fun v' w' r1 r2 => by
    have hlen : (olds ++ news).length = n + m := by rw [List.length_append, hlo, hl]
    have hown : Owns w.heap.size e w' v' (olds ++ news) := by unfold Owns; rw [hlen]; exact r1
    have hup : Up w w' := ⟨r2.os, r2.tape, r2.output, r2.size, fun b hb => r2.block b hb (fun e => by cases e)⟩
    obtain ⟨h2, h3 | ⟨g, c', cur, h3, _⟩⟩ := hown
    · omega
    · rw [hlen] at h3
      subst h3
      exact h g c' w' (by unfold Owns; rw [hlen]; exact r1) hup
  cases ao with
  | some b =>
    obtain ⟨v', w', hrun, r1, r2⟩ := run_append_arg_grows (P := P) w t o.type e i z 1 bytes ht hi hz hs1 hb hz1 (by omega) b n n olds (by omega) (holds b rfl) ad m c news (by omega) hnews (by omega) hb1 hb2
    unfold Oper.wp
    simp [execOp, ho, resolve, invoke, builtin, hs, hx, hrun, Result.andThen]
    exact fin v' w' r1 r2
  | none =>
    obtain rfl := hnone rfl
    obtain rfl : olds = [] := List.eq_nil_of_length_eq_zero hlo
    obtain ⟨v', w', hrun, r1, r2, _⟩ := run_append_own (P := P) w w.heap.size t o.type e i z 1 bytes ht hi hz hs1 hb hz1 (by omega) (.slice none 0 0) 0 [] (World.ownsRow_nil w _ e 1) ad m c news (by omega) hnews h1 hb1 hb2 (Nat.le_refl _)
    unfold Oper.wp
    simp [execOp, ho, resolve, invoke, builtin, hs, hx, hrun, Result.andThen]
    exact fin v' w' r1 r2
/-- 'append(s, x..)', x empty. -/
theorem step_app0 (hgd : o.guard = none) (s x : Operand) (t : TypeId) (ho : o.op = .call { callee := .builtin .append, args := #[s, x], argTypes := #[t, t] })
    (e : TypeId) (z : Value) (bytes : Nat) (ht : P.underlying t = some (.slice e)) (hinfo : (P.info? e).map (fun i => (i.zero, i.size, i.bytes)) = some (some z, 1, bytes))
    {ao : Option Addr} {n c : Nat} (hs : a.eval s = .slice ao n c) (hle : n ≤ c) {ad : Option Addr} {c2 : Nat} (hx : a.eval x = .slice ad 0 c2)
    (h : K (a.put o.dst (.slice ao n c)) w) : if Region.wanted o (yielded ops a.tmps) = true then Oper.wp P o a w K Q else E := by
  have hw : Region.wanted o (yielded ops a.tmps) = true := by simp [Region.wanted, hgd]
  rw [if_pos hw]
  obtain ⟨i, hi, hzz⟩ := Option.map_eq_some_iff.1 hinfo
  have hrun : (Builtin.append_ #[t, t] o.type #[.slice ao n c, .slice ad 0 c2]).run P w = .ok (.slice ao n c) w := by
    cases ao <;> cases ad <;> simp [Builtin.append_, run_underlying ht, sizeOf, typeInfo, hi, Builtin.lenOf, hle, Builtin.firstCells, storeCells, loadCells, loadCellsFrom]
  unfold Oper.wp
  simp [execOp, ho, resolve, invoke, builtin, hs, hx, hrun, Result.andThen]
  exact h
end
theorem RsAt.app2 {S : Nat → Prop} {w : World} : ∀ (a b : List RT) {vs us : List Value}, RsAt S w a vs → RsAt S w b us → RsAt S w (a ++ b) (vs ++ us)
  | [], b, vs, us, h, h2 => by unfold RsAt at h; subst h; exact h2
  | r :: a, b, vs, us, h, h2 => by
    unfold RsAt at h
    obtain ⟨u, q, rfl, h3, h4⟩ := h
    show RsAt S w (r :: (a ++ b)) (u :: (q ++ us))
    unfold RsAt
    exact ⟨u, q ++ us, rfl, h3, RsAt.app2 a b h4 h2⟩
theorem RsAt.takeR {S : Nat → Prop} {w : World} : ∀ (a : List RT) (k : Nat) {vs : List Value}, RsAt S w a vs → RsAt S w (a.take k) (vs.take k)
  | [], k, vs, h => by unfold RsAt at h; subst h; simp [RsAt]
  | r :: a, 0, vs, h => by simp [RsAt]
  | r :: a, k + 1, vs, h => by
    unfold RsAt at h
    obtain ⟨u, q, rfl, h3, h4⟩ := h
    rw [List.take_succ_cons, List.take_succ_cons]
    unfold RsAt
    exact ⟨u, _, rfl, h3, RsAt.takeR a k h4⟩
theorem RsAt.dropR {S : Nat → Prop} {w : World} : ∀ (a : List RT) (k : Nat) {vs : List Value}, RsAt S w a vs → RsAt S w (a.drop k) (vs.drop k)
  | [], k, vs, h => by unfold RsAt at h; subst h; simp [RsAt]
  | r :: a, 0, vs, h => h
  | r :: a, k + 1, vs, h => by
    unfold RsAt at h
    obtain ⟨u, q, rfl, h3, h4⟩ := h
    rw [List.drop_succ_cons, List.drop_succ_cons]
    exact RsAt.dropR a k h4
/-- The list of children is laid anew, with one more in it. -/
theorem Wip.lay {base B X : Nat} {w W : World} {nm : ByteArray} {kv kv' : Value} {acc : List RT} {avs : List Value} {o : RT} {u : Value} (h : Wip base B w nm kv acc) (hra : RsAt (fun b => base ≤ b ∧ b ≠ B ∧ kv.ownBlock ≠ some b) w acc avs) (hu : Up w W) (hX : w.heap.size ≤ X)
    (hkb : ∀ b, kv'.ownBlock = some b → X ≤ b) (hr : RAt (fun b => w.heap.size ≤ b ∧ b < X) W o u) (k : Nat) (ho : Owns (B + 1) 102 W kv' (avs.take k ++ u :: avs.drop k)) :
    Wip base B (W.setCell ⟨B, 1, none⟩ kv') nm kv' (acc.take k ++ o :: acc.drop k) := by
  have hBl := h.lt
  have hset : ∀ b, b ≠ B → (W.setCell ⟨B, 1, none⟩ kv').heap[b]? = W.heap[b]? := fun b hb => blk_setCell_other _ _ _ _ hb
  have hn := (Below.block hu B hBl).trans h.node
  have hlo := h.lo
  refine ⟨by simp [World.setCell, Array.getElem?_modify, hn], h.lo, _, ho.same2 fun b hb => hset b (by have := hkb b hb; omega), ?_⟩
  have k1 : Kept (fun b => base ≤ b ∧ b ≠ B ∧ kv'.ownBlock ≠ some b) w (W.setCell ⟨B, 1, none⟩ kv') := fun b hb hl => (hset b hb.2.1).trans (Below.block hu b hl)
  have a1 : RsAt (fun b => base ≤ b ∧ b ≠ B ∧ kv'.ownBlock ≠ some b) (W.setCell ⟨B, 1, none⟩ kv') acc avs :=
    RsAt.keep k1 acc (RsAt.sub (fun b hb hl => ⟨hb.1, hb.2.1, fun e => by have := hkb b e; omega⟩) acc hra)
  have k2 : Kept (fun b => base ≤ b ∧ b ≠ B ∧ kv'.ownBlock ≠ some b) W (W.setCell ⟨B, 1, none⟩ kv') := fun b hb _ => hset b hb.2.1
  have a2 : RAt (fun b => base ≤ b ∧ b ≠ B ∧ kv'.ownBlock ≠ some b) (W.setCell ⟨B, 1, none⟩ kv') o u :=
    RAt.keep k2 o (RAt.sub (fun b hb _ => ⟨by have := hb.1; omega, by have := hb.1; omega, fun e => by have := hkb b e; have := hb.2; omega⟩) o hr)
  refine RsAt.app2 _ _ (RsAt.takeR acc k a1) ?_
  unfold RsAt
  exact ⟨u, avs.drop k, rfl, a2, RsAt.dropR acc k a1⟩
end Go.Proofs.YtgjcfkadioblfaaGreat
namespace Go.Proofs.YtgjcfkadioblfaaGreat
open Go.RowKit Go.Deep
theorem size_RN (W : World) : (sizeOf 102).run Tryz.prog W = .ok 1 W := by simp [Tryz.sizeOf102]
theorem slice_from (W : World) (b o n c k : Nat) (h1 : k < n) (h2 : n ≤ c) : (Instr.slice 103 (.slice (some ⟨b, o, none⟩) n c) (some (.int .i64 (k : Nat))) none none).run Tryz.prog W = .ok (.slice (some ⟨b, o + k, none⟩) (n - k) (c - k)) W := by
  have hu := run_underlying (w := W) Tryz.underlying103
  have hb := run_sliceBound (P := Tryz.prog) (w := W) .i64 (k : Int) n .sliceB (by omega) (by omega)
  have hne : ¬ c = k := by omega
  simp [Instr.slice, Instr.sliceBounds, hu, hb, hne, Addr.add_lit]
def sEnd (a : Option Addr) (n c : Nat) : Option Addr := if c = n then a else Option.map (fun x => x.add n) a
theorem slice_end (W : World) (a : Option Addr) (n c : Nat) (_ : n ≤ c) : (Instr.slice 103 (.slice a n c) (some (.int .i64 (n : Nat))) none none).run Tryz.prog W = .ok (.slice (sEnd a n c) 0 (c - n)) W := by
  have hu := run_underlying (w := W) Tryz.underlying103
  have hb := run_sliceBound (P := Tryz.prog) (w := W) .i64 (n : Int) n .sliceB (by omega) (by omega)
  simp [Instr.slice, Instr.sliceBounds, hu, hb, sEnd]
theorem all_none {S : Nat → Prop} {w : World} {n c : Nat} {f : Nat → Value} {a : Option Addr} (h : SlAt S w (.slice a n c) n f) (e : a = none) : n = 0 := by
  subst e
  by_cases hn : n = 0
  · exact hn
  · obtain ⟨q, c', e, _, H⟩ := SlAt.open h
    injection e with e
    subst e
    obtain ⟨b, off, e2, _⟩ := H 0 (by omega)
    cases e2
theorem all_cells {S : Nat → Prop} {w : World} {n c : Nat} {vs : List Value} {a : Option Addr} (h : SlAt S w (.slice a n c) n (vN vs)) (hl : vs.length = n) (b : Addr) (e : a = some b) (i : Nat) (q : Value) (hq : vs[i]? = some q) : w.cell? (b.add i) = some q := by
  have hki : i < n := by rw [← hl]; exact (List.getElem?_eq_some_iff.1 hq).1
  obtain ⟨b', o', e2, hc⟩ := vN_get h hki
  rw [e] at e2
  injection e2 with e2
  subst e2
  have hv : vN vs i = q := by unfold vN; rw [List.getD_eq_getElem?_getD, hq]; rfl
  rw [hv] at hc
  rw [Addr.add_lit]; exact hc
theorem slice_cap (W : World) (a : Option Addr) (n c k : Nat) (h1 : k ≤ n) (h2 : n ≤ c) : (Instr.slice 103 (.slice a n c) none (some (.int .i64 (k : Nat))) (some (.int .i64 (k : Nat)))).run Tryz.prog W = .ok (.slice a k k) W := by
  have hu := run_underlying (w := W) Tryz.underlying103
  have hb := run_sliceBound (P := Tryz.prog) (w := W) .i64 (k : Int) c .slice3Acap (by omega) (by omega)
  have hb2 := run_sliceBound (P := Tryz.prog) (w := W) .i64 (k : Int) k .slice3B (by omega) (by omega)
  cases a with
  | none => simp [Instr.slice, Instr.sliceBounds, hu, hb, hb2]
  | some ad =>
    have : ad.add 0 = ad := by obtain ⟨x, y, z⟩ := ad; simp [Addr.add]
    simp [Instr.slice, Instr.sliceBounds, hu, hb, hb2, this]
end Go.Proofs.YtgjcfkadioblfaaGreat
