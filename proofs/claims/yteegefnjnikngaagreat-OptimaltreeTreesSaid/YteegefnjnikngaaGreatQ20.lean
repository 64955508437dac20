/- The contract of layer 31's reference's grow: the rose tree of a node. What .. -/
import Derived.Test.YteegefnjnikngaaGreatQ1
import Derived.Test.YteegefnjnikngaaGreatQ19
import Derived.Test.YteegefnjnikngaaGreatQ17
import Derived.Test.YteegefnjnikngaaGreatQ16
import Derived.Test.YteegefnjnikngaaGreatQ18
set_option maxRecDepth 100000
namespace Go.Proofs.YteegefnjnikngaaGreat
section
open Go.RowKit Go.Deep
theorem Tryz.mR : (Tryz.prog.info? 214).map (fun i => (i.zero, i.size, i.bytes)) = some (some (.pointer none), 1, 8) := by kernel_rfl
structure DL (w1 : World) (base B : Nat) (nm : ByteArray) (kl : List Int) (kp : Option Addr) (kc : Nat) (wr : World) (kv : Value) (rs : List RT) : Prop where
 qm : jb base B wr nm kv rs
 up : Up w1 wr
 ints : ax (fun b => b ≠ B ∧ kv.ownBlock ≠ some b) wr (.slice kp kl.length kc) kl
 lo : w1.heap.size ≤ B
theorem jB (w : World) : Up w w.drew := Up.drewN w 1
theorem DL.push {w1 : World} {base B : Nat} {nm : ByteArray} {kl : List Int} {kp : Option Addr} {kc : Nat} {wr w2 : World} {kv : Value} {rs : List RT} (h : DL w1 base B nm kl kp kc wr kv rs) {r : RT} {u : Value} (hu : Up wr w2) (hr : RAt (fun b => wr.heap.size ≤ b) w2 r u) :
  ∃ vs : List Value, vs.length = rs.length ∧ az (B + 1) 214 (w2.alloc (.cells #[u] 214)) kv vs ∧ B + 1 ≤ (w2.alloc (.cells #[u] 214)).heap.size ∧
   (∀ W, (w2.alloc (.cells #[u] 214)).grownBy W kv.ownBlock → W.cell? ⟨B, 1, none⟩ = some kv ∧ W.frozen? ⟨B, 1, none⟩ = false ∧ (∀ b o v, b < w1.heap.size → w1.cell? ⟨b, o, none⟩ = some v → W.cell? ⟨b, o, none⟩ = some v) ∧ ax (fun b => b ≠ B ∧ kv.ownBlock ≠ some b) W (.slice kp kl.length kc) kl) ∧
   ∀ g c W, az (B + 1) 214 W (.slice (some ⟨g, 0, none⟩) (vs.length + 1) c) (vs ++ [u]) → (w2.alloc (.cells #[u] 214)).grownBy W kv.ownBlock → (kv.ownBlock = some g ∨ g = (w2.alloc (.cells #[u] 214)).heap.size) →
    DL w1 base B nm kl kp kc (W.setCell ⟨B, 1, none⟩ (.slice (some ⟨g, 0, none⟩) (vs.length + 1) c)) (.slice (some ⟨g, 0, none⟩) (vs.length + 1) c) (rs ++ [r]) := by
 have aZ := Up.alloc w2 (.cells #[u] 214)
 have hW := (h.qm.up hu).up aZ
 have hBl := h.qm.lt
 have hsz := hu.size
 have rH : (w2.alloc (.cells #[u] 214)).heap.size = w2.heap.size + 1 := World.size_alloc _ _
 obtain ⟨vs, ho, hv⟩ := hW.kids
 obtain ⟨Tw, wm, _⟩ := h.qm.kids
 have hkb : ∀ b, kv.ownBlock = some b → b < wr.heap.size ∧ B < b := fun b hb => ⟨(aD wm hb).2, by have := (aD wm hb).1; omega⟩
 have hi2 : ax (fun b => b ≠ B ∧ kv.ownBlock ≠ some b) (w2.alloc (.cells #[u] 214)) (.slice kp kl.length kc) kl := ax.keep h.ints ((hu.trans aZ).kept _)
 have Py : ∀ W, (w2.alloc (.cells #[u] 214)).grownBy W kv.ownBlock → ax (fun b => b ≠ B ∧ kv.ownBlock ≠ some b) W (.slice kp kl.length kc) kl := fun W hg =>
  ax.keep hi2 fun b hb hl => hg.block b hl fun e => hb.2 e.symm
 refine ⟨vs, RsAt.len rs hv, ho, by omega, fun W hg => ?_, fun g c W hown hg dw => ?_⟩
 ·have hc := hW.cells
  have KO : some B ≠ kv.ownBlock := fun e => by have := (hkb B e.symm).2; omega
  have Zg : B < (w2.alloc (.cells #[u] 214)).heap.size := by omega
  refine ⟨?_, ?_, fun b o v hb hcb => ?_, Py W hg⟩
  ·rw [hg.cell_far (a := ⟨B, 1, none⟩) Zg KO]; exact hc.2.1
  ·rw [hg.frozen_far (a := ⟨B, 1, none⟩) Zg KO]; exact hc.2.2.2
  ·have h1 := ((h.up.trans hu).trans aZ)
   have hlo := h.lo
   rw [hg.cell_far _ (Nat.lt_of_lt_of_le hb h1.size) (fun e => by have := (hkb b e.symm).2; omega)]
   exact h1.cell hcb
 ·have IA : ∀ b, (Value.slice (some ⟨g, 0, none⟩) (vs.length + 1) c).ownBlock = some b → kv.ownBlock = some b ∨ (w2.alloc (.cells #[u] 214)).heap.size ≤ b := fun b hb => by
   injection hb with hb
   have hb : g = b := hb
   subst hb
   rcases dw with h1 | h1
   ·exact .inl h1
   ·exact .inr (by omega)
  have hlo := h.lo
  have hw := h.qm.lo
  refine ⟨hW.push (RAt.keep (aZ.kept _) r hr) (by omega) hBl (fun b hb => (hkb b hb).1) hv hown hg IA, ?_, ?_, h.lo⟩
  ·have h1 := (h.up.trans hu).trans aZ
   refine ⟨hg.os.trans h1.os, hg.tape.trans h1.tape, hg.output.trans h1.output, ?_, fun b hb => ?_⟩
   ·have := h1.size; have := hg.size; simp only [World.size_setCell]; omega
   ·rw [blk_setCell_other _ _ _ _ (by omega : b ≠ B), hg.block b (Nat.lt_of_lt_of_le hb h1.size) (fun e => by have := (hkb b e.symm).2; omega)]
    exact h1.block b hb
  ·have h2 := Py W hg
   have h3 : ax (fun b => b ≠ B ∧ kv.ownBlock ≠ some b ∧ (Value.slice (some ⟨g, 0, none⟩) (vs.length + 1) c).ownBlock ≠ some b) (w2.alloc (.cells #[u] 214)) (.slice kp kl.length kc) kl := ax.sub hi2 fun b hb hl => ⟨hb.1, hb.2, fun e => by
    rcases IA b e with h5 | h5
    ·exact hb.2 h5
    ·omega⟩
   have h4 := ax.keep (w' := W.setCell ⟨B, 1, none⟩ (.slice (some ⟨g, 0, none⟩) (vs.length + 1) c)) h3 fun b hb hl => (blk_setCell_other _ _ _ _ hb.1).trans (hg.block b hl fun e => hb.2.1 e.symm)
   exact ax.sub h4 fun b hb _ => ⟨hb.1, hb.2.2⟩
theorem Nq {S : Nat → Prop} {w : World} {b off n cap : Nat} {xs : List Int} (h : ax S w (.slice (some ⟨b, off, none⟩) n cap) xs) {k : Nat} (hk : k < xs.length) : w.cell? ⟨b, off + k, none⟩ = some (.int .i64 (gi xs k)) := by
 obtain ⟨b', o', e, hc⟩ := dQ h hk
 injection e with e
 injection e with e1 e2
 subst e1; subst e2; exact hc
def zP (w : World) (r : RT) (e : Ending) (w' : World) : Prop := Up w w' ∧ ∃ u, e = .returned u ∧ RAt (fun b => w.heap.size ≤ b) w' r u
theorem Bb {l : List Nat} {k : Nat} (h : k < l.length) : gi (dm l) k = (l[k] : Nat) := by simp [gi, dm, h]
theorem mq {S : Nat → Prop} {w : World} {r : RT} {u : Value} (h : RAt S w r u) : ∃ b, u = .pointer (some ⟨b, 0, none⟩) := by
 obtain ⟨b, _, _, _, e, _⟩ := h.open
 exact ⟨b, e⟩
set_option maxHeartbeats 4000000 in
theorem Gw (S : Nat → Prop) (t : av) (ht : aB t = 0) : ∀ (d n : Nat), cB t n ≤ d → n < t.ps.length → ∀ (w : World) (v : Value), ay S w v t → Calls Tryz.prog 213 #[v, .int .i64 n] w (zP w (aM (eG t) (cB t) n)) := by
 intro d
 induction d with
 | zero => intro n hd hn; unfold cB at hd; omega
 | succ d ih =>
 intro n hd hn w v hT
 obtain ⟨_, zL, hnl, hpk, _⟩ := aI ht
 have hwf := (dh ht).wf
 obtain ⟨P, N, rfl, hP, hN⟩ := hT
 obtain ⟨pp, pc, rfl, _, _⟩ := aA.open hP
 obtain ⟨np, nc, rfl, _, _⟩ := aA.open hN
 have hP : ax S w (.slice pp t.ps.length pc) t.ps := hP
 have hN : au S w (.slice np t.ns.length nc) t.ns := hN
 have aZ := Up.alloc w (.cells #[.slice pp t.ps.length pc, .slice np t.ns.length nc] 39)
 have b0 := dO w (.slice pp t.ps.length pc) (.slice np t.ns.length nc) 39
 have b1 := dP w (.slice pp t.ps.length pc) (.slice np t.ns.length nc) 39
 have hsz : (w.alloc (.cells #[.slice pp t.ps.length pc, .slice np t.ns.length nc] 39)).heap.size = w.heap.size + 1 := World.size_alloc _ _
 have uI : Hid (ay S (w.alloc (.cells #[.slice pp t.ps.length pc, .slice np t.ns.length nc] 39)) (.agg #[.slice pp t.ps.length pc, .slice np t.ns.length nc]) t) := ay.keep ⟨_, _, rfl, hP, hN⟩ (aZ.kept S)
 obtain ⟨sb, so, rfl, hsc⟩ := bQ (au.keep hN (aZ.kept S)) (k := n) (by rw [hnl]; exact hn)
 have hn2 : (n : Int) < (t.ns.length : Int) := by omega
 have hn0 : (0 : Int) ≤ (n : Int) := by omega
 have gG := aa b0
 have eO := aa b1
 have HU := aa aZ
 have b5 := aa hsz
 have HN := aa hn
 have H64 := aa zL
 have ir : Hid (∀ c ∈ bX t.ps n, ∀ W u, ay S W u t → Calls Tryz.prog 213 #[u, .int .i64 (c : Nat)] W (zP W (aM (eG t) (cB t) c))) := fun c hc W u hu => by
  have hk := hwf.kid n hn c hc
  exact ih c (by omega) hk.1 W u hu
 have Zh : Hid (aM (eG t) (cB t) n = .node (gs t.ns n) ((bX t.ps n).map (aM (eG t) (cB t)))) := cI hwf hn
 have fT : Hid ((bX t.ps n).length ≤ 64) := by have := lB t n; rw [kz] at this; unfold Hid; omega
 clear aZ hP hN hnl hpk ih hd hn hwf
 go_enter Tryz.func213, Tryz.ntmps213
 go_wp2_with fail
 generalize w.alloc (.cells #[.slice pp t.ps.length pc, .slice (some ⟨sb, so, none⟩) t.ns.length nc] 39) = w1 at *
 have hst := jb.start w1 (base := w.heap.size) (by rw [b5.out]; omega) (gs t.ns n)
 have Nr := Up.alloc w1 (.cells #[.string (gs t.ns n), .slice none 0 0] 261)
 have hs1 : (w1.alloc (.cells #[.string (gs t.ns n), .slice none 0 0] 261)).heap.size = w1.heap.size + 1 := World.size_alloc _ _
 refine (Gq S _ _ t n (uI.out.keep (Nr.kept S)) (by omega) HN.out).mono ?_
 rintro e w2 ⟨aF, kvv, rfl, hki⟩
 have aF : Up (w1.alloc (.cells #[.string (gs t.ns n), .slice none 0 0] 261)) w2 := aF
 obtain ⟨kp, kc, rfl, _, _⟩ := aA.open hki
 have Zi : DL w1 w.heap.size (w.heap.size + 1) (gs t.ns n) (dm (bX t.ps n)) kp kc w2 (.slice none 0 0) (((bX t.ps n).take 0).map (aM (eG t) (cB t))) := by
  rw [b5.out] at hst hs1
  exact ⟨hst.up aF, Nr.trans aF, ax.sub hki fun b hb _ => ⟨by rw [hs1] at hb; omega, fun e => by cases e⟩, by rw [b5.out]; exact Nat.le_refl _⟩
 have ri := aa Zi
 clear hst Nr hs1 aF hki Zi b0 b1
 have jK : (dm (bX t.ps n)).length = (bX t.ps n).length := by simp [dm]
 rw [jK]
 obtain ⟨L, hL⟩ : ∃ L, L = bX t.ps n := ⟨_, rfl⟩
 rw [← hL] at fT ir Zh ri ⊢
 clear hL jK
 go_wp2_with fail
 go_loopw [7] (fun i wr => ∃ (k : Nat) (kv : Value), k ≤ L.length ∧ i = .int .i64 k ∧ Hid (DL w1 w.heap.size (w.heap.size + 1) (gs t.ns n) (dm L) kp kc wr kv ((L.take k).map (aM (eG t) (cB t))))) (fun i _ => L.length - (intOf i).toNat)
 case atStart => exact ⟨0, _, Nat.zero_le _, rfl, ri.out⟩
 case round =>
  obtain ⟨k, kv, hk, rfl, hG⟩ := hrel
  obtain ⟨wo, rfl⟩ : ∃ wo : World, wo = wr := ⟨_, rfl⟩
  by_cases hlt : k < L.length
  ·have hc := hG.out.qm.cells
   have eF : k < (dm L).length := by simp [dm]; exact hlt
   obtain ⟨ib, io, rfl, hic⟩ := dQ hG.out.ints eF
   rw [Bb hlt] at hic
   have HCM : Hid (L[k] ∈ L) := List.getElem_mem hlt
   have fH : Hid ((L.take (k + 1)).map (aM (eG t) (cB t)) = (L.take k).map (aM (eG t) (cB t)) ++ [aM (eG t) (cB t) L[k]]) := by
    unfold Hid; rw [List.take_succ_eq_append_getElem hlt, List.map_append]; rfl
   have HCG : Hid (gi (dm L) k = (L[k] : Nat)) := Bb hlt
   generalize L[k] = c at *
   have eU : Hid (∀ W, Up wo W → Calls Tryz.prog 213 #[.agg #[.slice pp t.ps.length pc, .slice (some ⟨sb, so, none⟩) t.ns.length nc], .int .i64 (c : Nat)] W (zP W (aM (eG t) (cB t) c))) := fun W hW => ir.out c HCM.out W _ (uI.out.keep ((hG.out.up.trans hW).kept S))
   generalize aM (eG t) (cB t) c = r at *
   have hk1 := hc.2.1
   have hk2 := hc.2.2.2
   have hb0 := hG.out.up.cell gG.out
   have hb1 := hG.out.up.cell eO.out
   have i1 : (0 : Int) ≤ (k : Int) := by omega
   have i2 : (k : Int) < (L.length : Int) := by omega
   have i3 : (k : Int) < 64 := by have := fT.out; omega
   have aQ := aa hlt
   have lW : Hid (∀ W, Up wo W → W.cell? ⟨w.heap.size + 1, 1, none⟩ = some kv ∧ W.cell? ⟨w.heap.size, 0, none⟩ = some (.slice pp t.ps.length pc) ∧ W.cell? ⟨w.heap.size, 1, none⟩ = some (.slice (some ⟨sb, so, none⟩) t.ns.length nc) ∧ W.cell? ⟨ib, io + k, none⟩ = some (.int .i64 (c : Nat))) := fun W hW => ⟨hW.cell hk1, hW.cell hb0, hW.cell hb1, hW.cell hic⟩
   have Pz := aa hG.out
   clear hc eF hk hlt hG
   go_wp2_with fail
   refine cZ (by kernel_rfl) 16 (fun w' => w'.cell? ⟨w.heap.size + 1, 1, none⟩ = some kv ∧ w'.cell? ⟨w.heap.size, 0, none⟩ = some (.slice pp t.ps.length pc) ∧ w'.cell? ⟨w.heap.size, 1, none⟩ = some (.slice (some ⟨sb, so, none⟩) t.ns.length nc) ∧ w'.cell? ⟨ib, io + k, none⟩ = some (.int .i64 (c : Nat))) (lW.out _ (jB wo)) (fun hS => ?_)
   simp only [List.size_toArray, List.length_cons, List.length_nil, Nat.reduceAdd, Array.replicate_succ, Array.replicate_zero, List.push_toArray, List.nil_append, List.cons_append]
   refine af.take (i := 0) (v := ?Ke) rfl (by kernel_rfl) (fun _ _ _ h => h) (by rfl) (fun w hSw => ?ur) hS ?Kf
   case ur =>
    (try dsimp only at hSw)
    go_simp
    try with_reducible rfl
   try simp only [Act.put, ah, aj, aq]
   refine af.take (i := 1) (v := ?Kg) rfl (by kernel_rfl) (fun _ _ _ h => h) (by rfl) (fun w hSw => ?uu) hS ?Kh
   case uu =>
    (try dsimp only at hSw)
    go_simp
    try with_reducible rfl
   try simp only [Act.put, ah, aj, aq]
   refine af.take (i := 2) (v := ?Ki) rfl (by kernel_rfl) (fun _ _ _ h => h) (by rfl) (fun w hSw => ?uv) hS ?Kj
   case uv =>
    (try dsimp only at hSw)
    go_simp
    try with_reducible rfl
   try simp only [Act.put, ah, aj, aq]
   refine af.take (i := 3) (v := ?SK) rfl (by kernel_rfl) (fun _ _ _ h => h) (by rfl) (fun w hSw => ?C8) hS ?SL
   case C8 =>
    (try dsimp only at hSw)
    go_simp
    try with_reducible rfl
   try simp only [Act.put, ah, aj, aq]
   refine af.take (i := 4) (v := ?SM) rfl (by kernel_rfl) (fun _ _ _ h => h) (by rfl) (fun w hSw => ?C9) hS ?SN
   case C9 =>
    (try dsimp only at hSw)
    go_simp
    try with_reducible rfl
   try simp only [Act.put, ah, aj, aq]
   refine af.take (i := 5) (v := ?SP) rfl (by kernel_rfl) (fun _ _ _ h => h) (by rfl) (fun w hSw => ?Da) hS ?SQ
   case Da =>
    (try dsimp only at hSw)
    go_simp
    try with_reducible rfl
   try simp only [Act.put, ah, aj, aq]
   refine af.take (i := 6) (v := ?SR) rfl (by kernel_rfl) (fun _ _ _ h => h) (by rfl) (fun w hSw => ?Db) hS ?SS
   case Db =>
    (try dsimp only at hSw)
    go_simp
    try with_reducible rfl
   try simp only [Act.put, ah, aj, aq]
   refine af.take (i := 7) (v := ?Pj) rfl (by kernel_rfl) (fun _ _ _ h => h) (by rfl) (fun w hSw => ?yx) hS ?Pk
   case yx =>
    (try dsimp only at hSw)
    go_simp
    try with_reducible rfl
   try simp only [Act.put, ah, aj, aq]
   refine af.take (i := 8) (v := ?Pm) rfl (by kernel_rfl) (fun _ _ _ h => h) (by rfl) (fun w hSw => ?yy) hS ?Pn
   case yy =>
    (try dsimp only at hSw)
    go_simp
    try with_reducible rfl
   try simp only [Act.put, ah, aj, aq]
   refine af.take (i := 9) (v := ?Po) rfl (by kernel_rfl) (fun _ _ _ h => h) (by rfl) (fun w hSw => ?yz) hS ?Pp
   case yz =>
    (try dsimp only at hSw)
    go_simp
    try with_reducible rfl
   try simp only [Act.put, ah, aj, aq]
   refine af.step (i := 10) rfl (by kernel_rfl) (fun K' hK => ?_)
   go_simp
   refine (eU.out _ (jB wo)).mono ?_
   rintro e w3 ⟨b9, u, rfl, hr3⟩
   have b9 : Up wo.drew w3 := b9
   obtain ⟨ub, rfl⟩ := mq hr3
   have dL := aa ((jB wo).trans b9)
   obtain ⟨vs, hvl, hown, oC, Tx, yJ⟩ := Pz.out.push dL.out hr3
   have HOW := aa hown
   have kI := aa oC
   have C7 := aa Tx
   have yw := aa yJ
   have HVL : Hid (vs.length ≤ 1000000) := by
    have := aQ.out; have := fT.out; rw [List.length_map, List.length_take] at hvl; unfold Hid; omega
   have kG : Hid ((w3.alloc (.cells #[.pointer (some ⟨ub, 0, none⟩)] 214)).cell? ⟨w3.heap.size, 0, none⟩ = some (.pointer (some ⟨ub, 0, none⟩))) := uh _ _ _
   clear b9 hr3 hown oC Tx yJ hvl
   refine hK.out _ _ (fun _ => lW.out _ dL.out) (fun hS => ?_)
   replace hS := hS ⟨11, by decide, rfl⟩
   try simp only [ah, aj, aq]
   refine af.step (i := 11) rfl (by kernel_rfl) (fun K' hK => ?_)
   go_simp
   refine hK.out _ _ (fun _ => lW.out _ (dL.out.trans (Up.alloc _ _))) (fun hS => ?_)
   replace hS := hS ⟨12, by decide, rfl⟩
   try simp only [ah, aj, aq]
   refine af.step (i := 12) rfl (by kernel_rfl) (fun K' hK => ?_)
   refine eE (by rfl) _ _ _ (by rfl) (w.heap.size + 1 + 1) 214 _ 8 Tryz.underlying259 Tryz.mR (by rfl) (by decide) (by rfl) HOW.out (.pointer (some ⟨ub, 0, none⟩)) w3.heap.size (by rfl) kG.out (by rfl) HVL.out kI.out ?_
   intro g cap w4 qg hg4 uw Dg
   obtain ⟨q1, q2, q3, q4⟩ := C7.out w4 hg4
   have q5 : w4.cell? ⟨ib, io + k, none⟩ = some (.int .i64 (c : Nat)) := by rw [Nq q4 (by simp [dm]; exact aQ.out), HCG.out]
   have q6 := q3 _ _ _ (by rw [b5.out]; omega) gG.out
   have q7 := q3 _ _ _ (by rw [b5.out]; omega) eO.out
   have Kk := aa (yw.out g cap w4 qg hg4 uw)
   clear qg hg4 uw Dg q3 q4
   refine hK.out _ _ (fun _ => ⟨q1, q6, q7, q5⟩) (fun hS => ?_)
   replace hS := hS ⟨15, by decide, rfl⟩
   try simp only [Act.put, ah, aj, aq]
   refine af.take (i := 13) (v := ?SZ) rfl (by kernel_rfl) (fun _ _ _ h => h) (by rfl) (fun w hSw => ?De) hS ?S0
   case De =>
    (try dsimp only at hSw)
    go_simp
    try with_reducible rfl
   try simp only [Act.put, ah, aj, aq]
   refine af.take (i := 14) (v := ?S1) rfl (by kernel_rfl) (fun _ _ _ h => h) (by rfl) (fun w hSw => ?Df) hS ?S2
   case Df =>
    (try dsimp only at hSw)
    go_simp
    try with_reducible rfl
   try simp only [Act.put, ah, aj, aq]
   refine af.step (i := 15) rfl (by kernel_rfl) (fun K' hK => ?_)
   go_simp
   refine hK.out _ _ (aJ (by kernel_rfl)) (fun hS => ?_)
   refine af.done (by kernel_rfl) ?_
   go_wp2_with fail
   go_roundw
   case rel => exact ⟨k + 1, _, aQ.out, by go_num, by rw [fH.out]; exact Kk.out⟩
   case measure => have := aQ.out; simp [intOf]; omega
  ·obtain rfl : k = L.length := by omega
   have Pz := aa hG.out
   clear hG
   go_wp2_with fail
   go_ret
   refine ⟨HU.out.trans Pz.out.up, _, rfl, ?_⟩
   have h := Pz.out.qm.done
   rw [List.take_length] at h
   rw [Zh.out]; exact h
end
section
open Go.RowKit Go.Deep
end
section
open Go.RowKit Go.Deep
end
end Go.Proofs.YteegefnjnikngaaGreat
