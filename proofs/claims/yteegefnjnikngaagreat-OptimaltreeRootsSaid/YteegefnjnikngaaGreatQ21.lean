/- The contract of layer 31's reference's grow: the rose tree of a node. The tree that grow .. -/
import Derived.Test.YteegefnjnikngaaGreatQ1
import Derived.Test.YteegefnjnikngaaGreatQ20
import Derived.Test.YteegefnjnikngaaGreatQ5
import Derived.Test.YteegefnjnikngaaGreatQ19
import Derived.Test.YteegefnjnikngaaGreatQ18
import Derived.Test.YteegefnjnikngaaGreatQ17
import Derived.Test.YteegefnjnikngaaGreatQ12
import Derived.Test.YteegefnjnikngaaGreatQ10
set_option maxRecDepth 100000
namespace Go.Proofs.YteegefnjnikngaaGreat
section
open Go.RowKit Go.Deep
theorem Tryz.qB : (Tryz.prog.info? 214).map (fun i => (i.zero, i.size, i.bytes)) = some (some (.pointer none), 1, 8) := by kernel_rfl
structure Iw (w1 : World) (base B : Nat) (nm : ByteArray) (kl : List Int) (kp : Option Addr) (kc : Nat) (wr : World) (kv : Value) (rs : List RT) : Prop where
 tX : kT base B wr nm kv rs
 up : Up w1 wr
 ints : aB (fun b => b ≠ B ∧ kv.ownBlock ≠ some b) wr (.slice kp kl.length kc) kl
 lo : w1.heap.size ≤ B
theorem lW (w : World) : Up w w.drew := Up.drewN w 1
theorem Iw.push {w1 : World} {base B : Nat} {nm : ByteArray} {kl : List Int} {kp : Option Addr} {kc : Nat} {wr w2 : World} {kv : Value} {rs : List RT} (h : Iw w1 base B nm kl kp kc wr kv rs) {r : RT} {u : Value} (hu : Up wr w2) (hr : RAt (fun b => wr.heap.size ≤ b) w2 r u) :
  ∃ vs : List Value, vs.length = rs.length ∧ aA (B + 1) 214 (w2.alloc (.cells #[u] 214)) kv vs ∧ B + 1 ≤ (w2.alloc (.cells #[u] 214)).heap.size ∧
   (∀ W, (w2.alloc (.cells #[u] 214)).grownBy W kv.ownBlock → W.cell? ⟨B, 1, none⟩ = some kv ∧ W.frozen? ⟨B, 1, none⟩ = false ∧ (∀ b o v, b < w1.heap.size → w1.cell? ⟨b, o, none⟩ = some v → W.cell? ⟨b, o, none⟩ = some v) ∧ aB (fun b => b ≠ B ∧ kv.ownBlock ≠ some b) W (.slice kp kl.length kc) kl) ∧
   ∀ g c W, aA (B + 1) 214 W (.slice (some ⟨g, 0, none⟩) (vs.length + 1) c) (vs ++ [u]) → (w2.alloc (.cells #[u] 214)).grownBy W kv.ownBlock → (kv.ownBlock = some g ∨ g = (w2.alloc (.cells #[u] 214)).heap.size) →
    Iw w1 base B nm kl kp kc (W.setCell ⟨B, 1, none⟩ (.slice (some ⟨g, 0, none⟩) (vs.length + 1) c)) (.slice (some ⟨g, 0, none⟩) (vs.length + 1) c) (rs ++ [r]) := by
 have bq := Up.alloc w2 (.cells #[u] 214)
 have hW := (h.tX.up hu).up bq
 have hBl := h.tX.lt
 have hsz := hu.size
 have vt : (w2.alloc (.cells #[u] 214)).heap.size = w2.heap.size + 1 := World.size_alloc _ _
 obtain ⟨vs, ho, hv⟩ := hW.kids
 obtain ⟨Zc, zN, _⟩ := h.tX.kids
 have hkb : ∀ b, kv.ownBlock = some b → b < wr.heap.size ∧ B < b := fun b hb => ⟨(aF zN hb).2, by have := (aF zN hb).1; omega⟩
 have hi2 : aB (fun b => b ≠ B ∧ kv.ownBlock ≠ some b) (w2.alloc (.cells #[u] 214)) (.slice kp kl.length kc) kl := aB.keep h.ints ((hu.trans bq).kept _)
 have Ur : ∀ W, (w2.alloc (.cells #[u] 214)).grownBy W kv.ownBlock → aB (fun b => b ≠ B ∧ kv.ownBlock ≠ some b) W (.slice kp kl.length kc) kl := fun W hg =>
  aB.keep hi2 fun b hb hl => hg.block b hl fun e => hb.2 e.symm
 refine ⟨vs, RsAt.len rs hv, ho, by omega, fun W hg => ?_, fun g c W hown hg eR => ?_⟩
 ·have hc := hW.cells
  have PI : some B ≠ kv.ownBlock := fun e => by have := (hkb B e.symm).2; omega
  have hBa : B < (w2.alloc (.cells #[u] 214)).heap.size := by omega
  refine ⟨?_, ?_, fun b o v hb hcb => ?_, Ur W hg⟩
  ·rw [hg.cell_far (a := ⟨B, 1, none⟩) hBa PI]; exact hc.2.1
  ·rw [hg.frozen_far (a := ⟨B, 1, none⟩) hBa PI]; exact hc.2.2.2
  ·have h1 := ((h.up.trans hu).trans bq)
   have hlo := h.lo
   rw [hg.cell_far _ (Nat.lt_of_lt_of_le hb h1.size) (fun e => by have := (hkb b e.symm).2; omega)]
   exact h1.cell hcb
 ·have Na : ∀ b, (Value.slice (some ⟨g, 0, none⟩) (vs.length + 1) c).ownBlock = some b → kv.ownBlock = some b ∨ (w2.alloc (.cells #[u] 214)).heap.size ≤ b := fun b hb => by
   injection hb with hb
   have hb : g = b := hb
   subst hb
   rcases eR with h1 | h1
   ·exact .inl h1
   ·exact .inr (by omega)
  have hlo := h.lo
  have hw := h.tX.lo
  refine ⟨hW.push (RAt.keep (bq.kept _) r hr) (by omega) hBl (fun b hb => (hkb b hb).1) hv hown hg Na, ?_, ?_, h.lo⟩
  ·have h1 := (h.up.trans hu).trans bq
   refine ⟨hg.os.trans h1.os, hg.tape.trans h1.tape, hg.output.trans h1.output, ?_, fun b hb => ?_⟩
   ·have := h1.size; have := hg.size; simp only [World.size_setCell]; omega
   ·rw [blk_setCell_other _ _ _ _ (by omega : b ≠ B), hg.block b (Nat.lt_of_lt_of_le hb h1.size) (fun e => by have := (hkb b e.symm).2; omega)]
    exact h1.block b hb
  ·have h2 := Ur W hg
   have h3 : aB (fun b => b ≠ B ∧ kv.ownBlock ≠ some b ∧ (Value.slice (some ⟨g, 0, none⟩) (vs.length + 1) c).ownBlock ≠ some b) (w2.alloc (.cells #[u] 214)) (.slice kp kl.length kc) kl := aB.sub hi2 fun b hb hl => ⟨hb.1, hb.2, fun e => by
    rcases Na b e with h5 | h5
    ·exact hb.2 h5
    ·omega⟩
   have h4 := aB.keep (w' := W.setCell ⟨B, 1, none⟩ (.slice (some ⟨g, 0, none⟩) (vs.length + 1) c)) h3 fun b hb hl => (blk_setCell_other _ _ _ _ hb.1).trans (hg.block b hl fun e => hb.2.1 e.symm)
   exact aB.sub h4 fun b hb _ => ⟨hb.1, hb.2.2⟩
theorem SB {S : Nat → Prop} {w : World} {b off n cap : Nat} {xs : List Int} (h : aB S w (.slice (some ⟨b, off, none⟩) n cap) xs) {k : Nat} (hk : k < xs.length) : w.cell? ⟨b, off + k, none⟩ = some (.int .i64 (gi xs k)) := by
 obtain ⟨b', o', e, hc⟩ := eE h hk
 injection e with e
 injection e with e1 e2
 subst e1; subst e2; exact hc
def DB (w : World) (r : RT) (e : Ending) (w' : World) : Prop := Up w w' ∧ ∃ u, e = .returned u ∧ RAt (fun b => w.heap.size ≤ b) w' r u
theorem E0 {l : List Nat} {k : Nat} (h : k < l.length) : gi (eO l) k = (l[k] : Nat) := by simp [gi, eO, h]
theorem pM {S : Nat → Prop} {w : World} {r : RT} {u : Value} (h : RAt S w r u) : ∃ b, u = .pointer (some ⟨b, 0, none⟩) := by
 obtain ⟨b, _, _, _, e, _⟩ := h.open
 exact ⟨b, e⟩
set_option maxHeartbeats 4000000 in
theorem Lt (S : Nat → Prop) (t : ax) (ht : az t = 0) : ∀ (d n : Nat), bY t n ≤ d → n < t.ps.length → ∀ (w : World) (v : Value), aC S w v t → Calls Tryz.prog 213 #[v, .int .i64 n] w (DB w (aG (dy t) (bY t) n)) := by
 intro d
 induction d with
 | zero => intro n hd hn; unfold bY at hd; omega
 | succ d ih =>
 intro n hd hn w v hT
 obtain ⟨_, AZ, hnl, hpk, _⟩ := aH ht
 have hwf := (cK ht).wf
 obtain ⟨P, N, rfl, hP, hN⟩ := hT
 obtain ⟨pp, pc, rfl, _, _⟩ := aD.open hP
 obtain ⟨np, nc, rfl, _, _⟩ := aD.open hN
 have hP : aB S w (.slice pp t.ps.length pc) t.ps := hP
 have hN : av S w (.slice np t.ns.length nc) t.ns := hN
 have bq := Up.alloc w (.cells #[.slice pp t.ps.length pc, .slice np t.ns.length nc] 39)
 have b0 := ew w (.slice pp t.ps.length pc) (.slice np t.ns.length nc) 39
 have b1 := ey w (.slice pp t.ps.length pc) (.slice np t.ns.length nc) 39
 have hsz : (w.alloc (.cells #[.slice pp t.ps.length pc, .slice np t.ns.length nc] 39)).heap.size = w.heap.size + 1 := World.size_alloc _ _
 have xI : Hid (aC S (w.alloc (.cells #[.slice pp t.ps.length pc, .slice np t.ns.length nc] 39)) (.agg #[.slice pp t.ps.length pc, .slice np t.ns.length nc]) t) := aC.keep ⟨_, _, rfl, hP, hN⟩ (bq.kept S)
 obtain ⟨sb, so, rfl, hsc⟩ := cu (av.keep hN (bq.kept S)) (k := n) (by rw [hnl]; exact hn)
 have hn2 : (n : Int) < (t.ns.length : Int) := by omega
 have hn0 : (0 : Int) ≤ (n : Int) := by omega
 have jo := aa b0
 have iq := aa b1
 have HU := aa bq
 have bQ := aa hsz
 have HN := aa hn
 have Lu := aa AZ
 have iG : Hid (∀ c ∈ aQ t.ps n, ∀ W u, aC S W u t → Calls Tryz.prog 213 #[u, .int .i64 (c : Nat)] W (DB W (aG (dy t) (bY t) c))) := fun c hc W u hu => by
  have hk := hwf.kid n hn c hc
  exact ih c (by omega) hk.1 W u hu
 have HRF : Hid (aG (dy t) (bY t) n = .node (gs t.ns n) ((aQ t.ps n).map (aG (dy t) (bY t)))) := bA hwf hn
 have iT : Hid ((aQ t.ps n).length ≤ 64) := by have := jE t n; rw [gJ] at this; unfold Hid; omega
 clear bq hP hN hnl hpk ih hd hn hwf
 go_enter Tryz.func213, Tryz.ntmps213
 go_wp2_with fail
 generalize w.alloc (.cells #[.slice pp t.ps.length pc, .slice (some ⟨sb, so, none⟩) t.ns.length nc] 39) = w1 at *
 have hst := kT.start w1 (base := w.heap.size) (by rw [bQ.out]; omega) (gs t.ns n)
 have SC := Up.alloc w1 (.cells #[.string (gs t.ns n), .slice none 0 0] 261)
 have hs1 : (w1.alloc (.cells #[.string (gs t.ns n), .slice none 0 0] 261)).heap.size = w1.heap.size + 1 := World.size_alloc _ _
 refine (K5 S _ _ t n (xI.out.keep (SC.kept S)) (by omega) HN.out).mono ?_
 rintro e w2 ⟨aK, kvv, rfl, hki⟩
 have aK : Up (w1.alloc (.cells #[.string (gs t.ns n), .slice none 0 0] 261)) w2 := aK
 obtain ⟨kp, kc, rfl, _, _⟩ := aD.open hki
 have hG0 : Iw w1 w.heap.size (w.heap.size + 1) (gs t.ns n) (eO (aQ t.ps n)) kp kc w2 (.slice none 0 0) (((aQ t.ps n).take 0).map (aG (dy t) (bY t))) := by
  rw [bQ.out] at hst hs1
  exact ⟨hst.up aK, SC.trans aK, aB.sub hki fun b hb _ => ⟨by rw [hs1] at hb; omega, fun e => by cases e⟩, by rw [bQ.out]; exact Nat.le_refl _⟩
 have uP := aa hG0
 clear hst SC hs1 aK hki hG0 b0 b1
 have kP : (eO (aQ t.ps n)).length = (aQ t.ps n).length := by simp [eO]
 rw [kP]
 obtain ⟨L, hL⟩ : ∃ L, L = aQ t.ps n := ⟨_, rfl⟩
 rw [← hL] at iT iG HRF uP ⊢
 clear hL kP
 go_wp2_with fail
 go_loopw [7] (fun i wr => ∃ (k : Nat) (kv : Value), k ≤ L.length ∧ i = .int .i64 k ∧ Hid (Iw w1 w.heap.size (w.heap.size + 1) (gs t.ns n) (eO L) kp kc wr kv ((L.take k).map (aG (dy t) (bY t))))) (fun i _ => L.length - (intOf i).toNat)
 case atStart => exact ⟨0, _, Nat.zero_le _, rfl, uP.out⟩
 case round =>
  obtain ⟨k, kv, hk, rfl, hG⟩ := hrel
  obtain ⟨wo, rfl⟩ : ∃ wo : World, wo = wr := ⟨_, rfl⟩
  by_cases hlt : k < L.length
  ·have hc := hG.out.tX.cells
   have dY : k < (eO L).length := by simp [eO]; exact hlt
   obtain ⟨ib, io, rfl, hic⟩ := eE hG.out.ints dY
   rw [E0 hlt] at hic
   have HCM : Hid (L[k] ∈ L) := List.getElem_mem hlt
   have jP : Hid ((L.take (k + 1)).map (aG (dy t) (bY t)) = (L.take k).map (aG (dy t) (bY t)) ++ [aG (dy t) (bY t) L[k]]) := by
    unfold Hid; rw [List.take_succ_eq_append_getElem hlt, List.map_append]; rfl
   have HCG : Hid (gi (eO L) k = (L[k] : Nat)) := E0 hlt
   generalize L[k] = c at *
   have dO : Hid (∀ W, Up wo W → Calls Tryz.prog 213 #[.agg #[.slice pp t.ps.length pc, .slice (some ⟨sb, so, none⟩) t.ns.length nc], .int .i64 (c : Nat)] W (DB W (aG (dy t) (bY t) c))) := fun W hW => iG.out c HCM.out W _ (xI.out.keep ((hG.out.up.trans hW).kept S))
   generalize aG (dy t) (bY t) c = r at *
   have hk1 := hc.2.1
   have hk2 := hc.2.2.2
   have hb0 := hG.out.up.cell jo.out
   have hb1 := hG.out.up.cell iq.out
   have i1 : (0 : Int) ≤ (k : Int) := by omega
   have i2 : (k : Int) < (L.length : Int) := by omega
   have i3 : (k : Int) < 64 := by have := iT.out; omega
   have aY := aa hlt
   have kO : Hid (∀ W, Up wo W → W.cell? ⟨w.heap.size + 1, 1, none⟩ = some kv ∧ W.cell? ⟨w.heap.size, 0, none⟩ = some (.slice pp t.ps.length pc) ∧ W.cell? ⟨w.heap.size, 1, none⟩ = some (.slice (some ⟨sb, so, none⟩) t.ns.length nc) ∧ W.cell? ⟨ib, io + k, none⟩ = some (.int .i64 (c : Nat))) := fun W hW => ⟨hW.cell hk1, hW.cell hb0, hW.cell hb1, hW.cell hic⟩
   have UJ := aa hG.out
   clear hc dY hk hlt hG
   go_wp2_with fail
   refine cU (by kernel_rfl) 16 (fun w' => w'.cell? ⟨w.heap.size + 1, 1, none⟩ = some kv ∧ w'.cell? ⟨w.heap.size, 0, none⟩ = some (.slice pp t.ps.length pc) ∧ w'.cell? ⟨w.heap.size, 1, none⟩ = some (.slice (some ⟨sb, so, none⟩) t.ns.length nc) ∧ w'.cell? ⟨ib, io + k, none⟩ = some (.int .i64 (c : Nat))) (kO.out _ (lW wo)) (fun hS => ?_)
   simp only [List.size_toArray, List.length_cons, List.length_nil, Nat.reduceAdd, Array.replicate_succ, Array.replicate_zero, List.push_toArray, List.nil_append, List.cons_append]
   refine af.take (i := 0) (v := ?OX) rfl (by kernel_rfl) (fun _ _ _ h => h) (by rfl) (fun w hSw => ?yu) hS ?OY
   case yu =>
    (try dsimp only at hSw)
    go_simp
    try with_reducible rfl
   try simp only [Act.put, aq, ah, au]
   refine af.take (i := 1) (v := ?OZ) rfl (by kernel_rfl) (fun _ _ _ h => h) (by rfl) (fun w hSw => ?yw) hS ?O0
   case yw =>
    (try dsimp only at hSw)
    go_simp
    try with_reducible rfl
   try simp only [Act.put, aq, ah, au]
   refine af.take (i := 2) (v := ?O1) rfl (by kernel_rfl) (fun _ _ _ h => h) (by rfl) (fun w hSw => ?yx) hS ?O2
   case yx =>
    (try dsimp only at hSw)
    go_simp
    try with_reducible rfl
   try simp only [Act.put, aq, ah, au]
   refine af.take (i := 3) (v := ?Yn) rfl (by kernel_rfl) (fun _ _ _ h => h) (by rfl) (fun w hSw => ?G2) hS ?Yo
   case G2 =>
    (try dsimp only at hSw)
    go_simp
    try with_reducible rfl
   try simp only [Act.put, aq, ah, au]
   refine af.take (i := 4) (v := ?Yp) rfl (by kernel_rfl) (fun _ _ _ h => h) (by rfl) (fun w hSw => ?G3) hS ?Yq
   case G3 =>
    (try dsimp only at hSw)
    go_simp
    try with_reducible rfl
   try simp only [Act.put, aq, ah, au]
   refine af.take (i := 5) (v := ?Yr) rfl (by kernel_rfl) (fun _ _ _ h => h) (by rfl) (fun w hSw => ?G4) hS ?Yt
   case G4 =>
    (try dsimp only at hSw)
    go_simp
    try with_reducible rfl
   try simp only [Act.put, aq, ah, au]
   refine af.take (i := 6) (v := ?Yu) rfl (by kernel_rfl) (fun _ _ _ h => h) (by rfl) (fun w hSw => ?G5) hS ?Yv
   case G5 =>
    (try dsimp only at hSw)
    go_simp
    try with_reducible rfl
   try simp only [Act.put, aq, ah, au]
   refine af.take (i := 7) (v := ?Ut) rfl (by kernel_rfl) (fun _ _ _ h => h) (by rfl) (fun w hSw => ?BZ) hS ?Uu
   case BZ =>
    (try dsimp only at hSw)
    go_simp
    try with_reducible rfl
   try simp only [Act.put, aq, ah, au]
   refine af.take (i := 8) (v := ?Uv) rfl (by kernel_rfl) (fun _ _ _ h => h) (by rfl) (fun w hSw => ?B1) hS ?Uw
   case B1 =>
    (try dsimp only at hSw)
    go_simp
    try with_reducible rfl
   try simp only [Act.put, aq, ah, au]
   refine af.take (i := 9) (v := ?Ux) rfl (by kernel_rfl) (fun _ _ _ h => h) (by rfl) (fun w hSw => ?B2) hS ?Uy
   case B2 =>
    (try dsimp only at hSw)
    go_simp
    try with_reducible rfl
   try simp only [Act.put, aq, ah, au]
   refine af.step (i := 10) rfl (by kernel_rfl) (fun K' hK => ?_)
   go_simp
   refine (dO.out _ (lW wo)).mono ?_
   rintro e w3 ⟨cF, u, rfl, hr3⟩
   have cF : Up wo.drew w3 := cF
   obtain ⟨ub, rfl⟩ := pM hr3
   have dS := aa ((lW wo).trans cF)
   obtain ⟨vs, hvl, hown, nV, Zd, Ch⟩ := UJ.out.push dS.out hr3
   have HOW := aa hown
   have jq := aa nV
   have G1 := aa Zd
   have BX := aa Ch
   have HVL : Hid (vs.length ≤ 1000000) := by
    have := aY.out; have := iT.out; rw [List.length_map, List.length_take] at hvl; unfold Hid; omega
   have nu : Hid ((w3.alloc (.cells #[.pointer (some ⟨ub, 0, none⟩)] 214)).cell? ⟨w3.heap.size, 0, none⟩ = some (.pointer (some ⟨ub, 0, none⟩))) := uW _ _ _
   clear cF hr3 hown nV Zd Ch hvl
   refine hK.out _ _ (fun _ => kO.out _ dS.out) (fun hS => ?_)
   replace hS := hS ⟨11, by decide, rfl⟩
   try simp only [aq, ah, au]
   refine af.step (i := 11) rfl (by kernel_rfl) (fun K' hK => ?_)
   go_simp
   refine hK.out _ _ (fun _ => kO.out _ (dS.out.trans (Up.alloc _ _))) (fun hS => ?_)
   replace hS := hS ⟨12, by decide, rfl⟩
   try simp only [aq, ah, au]
   refine af.step (i := 12) rfl (by kernel_rfl) (fun K' hK => ?_)
   refine gy (by rfl) _ _ _ (by rfl) (w.heap.size + 1 + 1) 214 _ 8 Tryz.underlying259 Tryz.qB (by rfl) (by decide) (by rfl) HOW.out (.pointer (some ⟨ub, 0, none⟩)) w3.heap.size (by rfl) nu.out (by rfl) HVL.out jq.out ?_
   intro g cap w4 tS hg4 yy He
   obtain ⟨q1, q2, q3, q4⟩ := G1.out w4 hg4
   have q5 : w4.cell? ⟨ib, io + k, none⟩ = some (.int .i64 (c : Nat)) := by rw [SB q4 (by simp [eO]; exact aY.out), HCG.out]
   have q6 := q3 _ _ _ (by rw [bQ.out]; omega) jo.out
   have q7 := q3 _ _ _ (by rw [bQ.out]; omega) iq.out
   have O3 := aa (BX.out g cap w4 tS hg4 yy)
   clear tS hg4 yy He q3 q4
   refine hK.out _ _ (fun _ => ⟨q1, q6, q7, q5⟩) (fun hS => ?_)
   replace hS := hS ⟨15, by decide, rfl⟩
   try simp only [Act.put, aq, ah, au]
   refine af.take (i := 13) (v := ?YA) rfl (by kernel_rfl) (fun _ _ _ h => h) (by rfl) (fun w hSw => ?G8) hS ?YB
   case G8 =>
    (try dsimp only at hSw)
    go_simp
    try with_reducible rfl
   try simp only [Act.put, aq, ah, au]
   refine af.take (i := 14) (v := ?YC) rfl (by kernel_rfl) (fun _ _ _ h => h) (by rfl) (fun w hSw => ?G9) hS ?YD
   case G9 =>
    (try dsimp only at hSw)
    go_simp
    try with_reducible rfl
   try simp only [Act.put, aq, ah, au]
   refine af.step (i := 15) rfl (by kernel_rfl) (fun K' hK => ?_)
   go_simp
   refine hK.out _ _ (aJ (by kernel_rfl)) (fun hS => ?_)
   refine af.done (by kernel_rfl) ?_
   go_wp2_with fail
   go_roundw
   case rel => exact ⟨k + 1, _, aY.out, by go_num, by rw [jP.out]; exact O3.out⟩
   case measure => have := aY.out; simp [intOf]; omega
  ·obtain rfl : k = L.length := by omega
   have UJ := aa hG.out
   clear hG
   go_wp2_with fail
   go_ret
   refine ⟨HU.out.trans UJ.out.up, _, rfl, ?_⟩
   have h := UJ.out.tX.done
   rw [List.take_length] at h
   rw [HRF.out]; exact h
end
section
end
section
theorem KE {l : List (ByteArray × Value)} {k j : ByteArray} {v : Value} : (sL l k v).lookup j = if j = k then some v else l.lookup j := by
 unfold sL
 split
 ·rename_i h
  have h0 : l.lookup k = none := by simpa using h
  rw [List.lookup_append]
  by_cases e : j = k
  ·subst e; rw [if_pos rfl, h0]; simp [List.lookup, o8]
  ·rw [if_neg e]
   have : List.lookup j [(k, v)] = none := by simp [List.lookup, rA e]
   rw [this]; simp
 ·rename_i h
  have h0 : (l.lookup k).isSome := by
   cases hl : l.lookup k with
   | none => rw [hl] at h; exact absurd rfl h
   | some x => rfl
  clear h
  induction l with
  | nil => cases h0
  | cons y l ih =>
   obtain ⟨y1, y2⟩ := y
   rw [List.map_cons]
   by_cases e1 : y1 = k
   ·subst e1
    rw [if_pos rfl, List.lookup_cons]
    by_cases e : j = y1
    ·subst e; rw [o8, if_pos rfl]
    ·rw [rA e, if_neg e, List.lookup_cons, rA e]
     have hm : ∀ l : List (ByteArray × Value), List.lookup j (l.map fun x => if x.1 = y1 then (y1, v) else x) = List.lookup j l := by
      intro l
      induction l with
      | nil => rfl
      | cons z l ihl =>
       obtain ⟨z1, z2⟩ := z
       rw [List.map_cons]
       by_cases ez : z1 = y1
       ·subst ez; rw [if_pos rfl, List.lookup_cons, rA e, List.lookup_cons, rA e]; exact ihl
       ·rw [if_neg ez, List.lookup_cons, List.lookup_cons, ihl]
     exact hm l
   ·rw [if_neg e1, List.lookup_cons, List.lookup_cons]
    rw [List.lookup_cons, rA (fun h => e1 h.symm)] at h0
    by_cases e : j = y1
    ·subst e; rw [o8, if_neg e1]
    ·rw [rA e]; exact ih h0
end
section
open Go.RowKit Go.Deep
end
section
open Go.RowKit Go.Deep
section
variable {n base : Nat} {A : Nat → Nat} {kv : Nat → Value} {F : aP} {w w' w2 : World} {rk : Nat → Nat}
def gz (F : aP) (rk : Nat → Nat) (z : Nat) : List Nat := if (F.kids z).length = 1 then F.kids z else (F.kids z).map (cr F rk)
def nM (F : aP) (rk : Nat → Nat) (y k : Nat) : aP := ⟨F.nm, F.old, fun z => if z = y then ((F.kids y).take k).map (cr F rk) ++ (F.kids y).drop k else (F.upto rk (gz F rk) (F.kids y) k).kids z⟩
def Iy (base n : Nat) (A : Nat → Nat) (kv : Nat → Value) (F : aP) (rk : Nat → Nat) (i : Nat) (w : World) (e : Ending) (w' : World) : Prop :=
 e = .returned (.pointer (some ⟨A (cr F rk i), 0, none⟩)) ∧ aS base n A kv (F.sub rk (gz F rk) i) w' ∧ gL n A kv w w'
theorem SD (h : Wf F n rk) {y k : Nat} (hy : y < n) (hk : F.kids y = [k]) (z : Nat) : (F.sub rk (gz F rk) k).kids z = (F.sub rk (gz F rk) y).kids z := by
 show (if _ then _ else _) = if _ then _ else _
 by_cases e : z = y
 ·subst e
  rw [o9 h hy (by rw [hk]; simp), aN h hy, if_neg (by simp), if_pos rfl]
  unfold gz; rw [if_pos (by rw [hk]; rfl)]
 ·rw [fh h hy, hk, show (z == y) = false from beq_eq_false_iff_ne.2 e]
  simp
theorem SE (y z : Nat) : (nM F rk y 0).kids z = F.kids z := by
 show (if _ then _ else _) = _
 split
 ·rename_i e; subst e; simp
 ·exact EX _ _ _
theorem rX (y k : Nat) : (nM F rk y k).kids y = ((F.kids y).take k).map (cr F rk) ++ (F.kids y).drop k := by
 show (if _ then _ else _) = _
 rw [if_pos rfl]
theorem Lv (y k : Nat) : ((nM F rk y k).kids y).length = (F.kids y).length := by
 rw [rX, List.length_append, List.length_map, List.length_take, List.length_drop]; omega
theorem Ze {y k c : Nat} (hc : (F.kids y)[k]? = some c) : ((nM F rk y k).kids y)[k]? = some c := by
 obtain ⟨hk, e⟩ := List.getElem?_eq_some_iff.1 hc
 rw [rX, List.getElem?_append_right (by rw [List.length_map, List.length_take]; omega), List.length_map, List.length_take, List.getElem?_drop, show k + (k - min k (F.kids y).length) = k by omega]
 exact hc
theorem Ci (h : Wf F n rk) {y : Nat} (hy : y < n) (k : Nat) : Wf (nM F rk y k) n rk := ⟨fun i hi j hj => by
 have key : ∀ z, z < n → ∀ c ∈ F.kids z, cr F rk c < n ∧ rk (cr F rk c) < rk z := fun z hz c hc => by
  obtain ⟨h1, h2⟩ := h.kid z hz c hc
  obtain ⟨a, b, _⟩ := zl h h1 (Nat.le_refl _)
  exact ⟨a, by omega⟩
 by_cases e : i = y
 ·subst e
  rw [rX, List.mem_append] at hj
  rcases hj with hj | hj
  ·obtain ⟨c, hc, rfl⟩ := List.mem_map.1 hj
   exact key i hi c (List.mem_of_mem_take hc)
  ·exact h.kid i hi j (List.mem_of_mem_drop hj)
 ·have hj : j ∈ if i = y then _ else (F.upto rk (gz F rk) (F.kids y) k).kids i := hj
  rw [if_neg e] at hj
  have hj : j ∈ if _ then _ else _ := hj
  split at hj
  ·unfold gz at hj
   split at hj
   ·exact h.kid i hi j hj
   ·obtain ⟨c, hc, rfl⟩ := List.mem_map.1 hj
    exact key i hi c hc
  ·exact h.kid i hi j hj⟩
theorem yG (h : Wf F n rk) {y k c : Nat} (hy : y < n) (hD : oh F n rk y) (hc : (F.kids y)[k]? = some c) : ∀ z, aM F rk c z = true → (nM F rk y k).kids z = F.kids z := fun z hs => by
 have nh := List.mem_of_getElem? hc
 have hne : z ≠ y := fun e => by subst e; rw [o9 h hy nh] at hs; cases hs
 show (if _ then _ else _) = _
 rw [if_neg hne]
 exact rF h hy hD hc z hs
theorem PJ (hl : ∀ z, z < n → (F.kids z).length ≤ 1000) {y : Nat} (hy : y < n) (k z : Nat) (hz : z < n) : ((nM F rk y k).kids z).length ≤ 1000 := by
 by_cases e : z = y
 ·subst e; rw [Lv]; exact hl z hz
 ·show (if z = y then _ else (F.upto rk (gz F rk) (F.kids y) k).kids z).length ≤ _
  rw [if_neg e]
  show (if _ then _ else _ : List Nat).length ≤ _
  split
  ·unfold gz; split
   ·exact hl z hz
   ·rw [List.length_map]; exact hl z hz
  ·exact hl z hz
theorem Wm (h : Wf F n rk) {y : Nat} (hy : y < n) (h1 : (F.kids y).length ≠ 1) (z : Nat) : (nM F rk y (F.kids y).length).kids z = (F.sub rk (gz F rk) y).kids z := by
 by_cases e : z = y
 ·subst e
  rw [rX, List.take_length, List.drop_length, List.append_nil]
  show _ = if _ then _ else _
  rw [if_pos (aN h hy)]
  unfold gz; rw [if_neg h1]
 ·show (if _ then _ else _) = _
  rw [if_neg e]
  exact Io h hy e
theorem aS.Zf (h : aS base n A kv F w) {y k c g m cap : Nat} (hy : y < n) (hv : kv y = .slice (some ⟨g, 0, none⟩) m cap) (hk : k < (F.kids y).length) (hc : c < n) :
  w.frozen? ⟨g, k, none⟩ = false ∧ (∃ x, w.cell? ⟨g, k, none⟩ = some x) ∧ aS base n A kv { F with kids := upd F.kids y ((F.kids y).set k c) } (w.setCell ⟨g, k, none⟩ (aL A c)) ∧ gL n A kv w (w.setCell ⟨g, k, none⟩ (aL A c)) := by
 obtain ⟨g2, dM, e, hg, tN, Iz, hfz, b8⟩ := (h.own y hy).set (j := k) (by simpa using hk)
 rw [hv] at e
 injection e with e1 e2 e3
 injection e1 with e1
 injection e1 with e1
 subst e1
 have Li : (kv y).ownBlock = some g := by rw [hv]; rfl
 have b8 := b8 (aL A c)
 rw [show ((F.kids y).map (aL A)).set k (aL A c) = ((F.kids y).set k c).map (aL A) by rw [List.map_set]] at b8
 refine ⟨hfz, ⟨_, Iz⟩, ⟨fun i hi => ?_, h.lo, h.inj, fun i hi => ?_, h.apart, h.alone, fun i hi => ?_⟩, ?_⟩
 ·rw [blk_setCell_other _ _ _ _ (fun e2 => h.apart y i hy hi (by rw [Li, e2]))]; exact h.node i hi
 ·by_cases e : i = y
  ·subst e; simp only [upd_same]; exact b8
  ·simp only [upd_ne _ _ e]; exact (h.own i hi).same fun b hb => blk_setCell_other _ _ _ _ (fun e2 => e (h.alone i y b hi hy hb (by rw [Li, e2])))
 ·by_cases e : i = y
  ·subst e; simp only [upd_same]
   intro j hj
   rcases List.mem_or_eq_of_mem_set hj with h1 | h1
   ·exact h.kid i hi j h1
   ·rw [h1]; exact hc
  ·simp only [upd_ne _ _ e]; exact h.kid i hi
 ·exact ⟨rfl, rfl, rfl, by rw [World.size_setCell]; exact Nat.le_refl _, fun b hb _ hb2 => blk_setCell_other _ _ _ _ (fun e2 => hb2 y hy (by rw [Li, e2]))⟩
theorem Wn (hw : Wf F n rk) {y k c g m cap : Nat} (hy : y < n) (hD : oh F n rk y) (hc : (F.kids y)[k]? = some c) (hv : kv y = .slice (some ⟨g, 0, none⟩) m cap)
  (h : aS base n A kv ((nM F rk y k).sub rk (gz (nM F rk y k) rk) c) w2) :
  w2.cell? ⟨A y, 1, none⟩ = some (.slice (some ⟨g, 0, none⟩) m cap) ∧ w2.frozen? ⟨g, k, none⟩ = false ∧ (∃ x, w2.cell? ⟨g, k, none⟩ = some x) ∧ aS base n A kv (nM F rk y (k + 1)) (w2.setCell ⟨g, k, none⟩ (.pointer (some ⟨A (cr F rk c), 0, none⟩))) ∧ gL n A kv w2 (w2.setCell ⟨g, k, none⟩ (.pointer (some ⟨A (cr F rk c), 0, none⟩))) := by
 have nh := List.mem_of_getElem? hc
 have cD := (hw.kid y hy c nh).1
 have hG := Ci hw hy k
 have hz := yG hw hy hD hc
 have hsub := pI hw hG cD (Nat.le_refl _) hz
 obtain ⟨dY, hke⟩ := List.getElem?_eq_some_iff.1 hc
 have hny : aM F rk c y = false := o9 hw hy nh
 have hrow : ((nM F rk y k).sub rk (gz (nM F rk y k) rk) c).kids y = (nM F rk y k).kids y := by
  show (if _ then _ else _) = _
  rw [hsub, hny, if_neg (by simp)]
 obtain ⟨h1, h4, h2, h3⟩ := h.Zf hy hv (k := k) (c := cr F rk c) (by rw [hrow, Lv]; exact dY) (zl hw cD (Nat.le_refl _)).1
 refine ⟨by rw [h.je hy, hv], h1, h4, h2.ox fun z dP => ⟨rfl, rfl, ?_⟩, h3⟩
 show _ = upd _ y _ z
 by_cases e : z = y
 ·subst e
  rw [upd_same, hrow, rX, rX]
  have ht : ((F.kids z).take k).length = k := by rw [List.length_take]; omega
  rw [List.set_append_right _ _ (by rw [List.length_map, ht]; exact Nat.le_refl _), List.length_map, ht, Nat.sub_self]
  rw [List.take_add_one, hc, List.map_append, List.append_assoc]
  congr 1
  rw [List.drop_eq_getElem_cons dY, ah]; rfl
 ·rw [upd_ne _ _ e]
  show (if _ then _ else _) = if _ then _ else _
  rw [if_neg e, EY hc, hsub]
  split
  ·rename_i hs
   unfold gz
   rw [hz z hs]
   split
   ·rfl
   ·refine List.map_congr_left fun j hj => ?_
    exact (Lr hw hG (hw.kid z dP j hj).1 (Nat.le_refl _) fun u hu => hz u (dV hw cD (Nat.le_refl _) hs (bz hw dP hj hu))).symm
  ·show _ = if _ then _ else _
   rw [if_neg e]
theorem Wo (hinj : ∀ i j, i < n → j < n → A i = A j → i = j) (rk : Nat → Nat) : ∃ m : Value → Nat, ∀ y, y < n → m (.pointer (some ⟨A y, 0, none⟩)) = rk y := by
 have h1 : ∀ v : Value, ∃ k : Nat, ∀ y, y < n → v = .pointer (some ⟨A y, 0, none⟩) → k = rk y := fun v => by
  by_cases h : ∃ y, y < n ∧ v = .pointer (some ⟨A y, 0, none⟩)
  ·obtain ⟨y, hy, e⟩ := h
   refine ⟨rk y, fun z hz e2 => ?_⟩
   rw [e] at e2
   injection e2 with e2
   injection e2 with e2
   injection e2 with e2
   rw [hinj y z hy hz e2]
  ·exact ⟨0, fun y hy e => absurd ⟨y, hy, e⟩ h⟩
 obtain ⟨m, hm⟩ := Classical.axiomOfChoice h1
 exact ⟨m, fun y hy => hm _ y hy rfl⟩
end
end
end Go.Proofs.YteegefnjnikngaaGreat
