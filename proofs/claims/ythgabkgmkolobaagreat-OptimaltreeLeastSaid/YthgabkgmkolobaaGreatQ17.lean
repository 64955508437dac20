/- The contract of layer 31's reference's children. The contract of layer 31's reference's .. -/
import Derived.Test.YthgabkgmkolobaaGreatQ3
import Derived.Test.YthgabkgmkolobaaGreatQ1
import Derived.Test.YthgabkgmkolobaaGreatQ16
set_option maxRecDepth 100000
namespace Go.Proofs.YthgabkgmkolobaaGreat
section
open Go.RowKit Go.Deep
def Yw (w : World) (l : List Nat) (e : Ending) (w' : World) : Prop := Below w.heap.size w w' ∧ ∃ v, e = .returned v ∧ aq (fun b => w.heap.size ≤ b) w' v (eo l)
set_option maxHeartbeats 800000 in
theorem K7 (S : Nat → Prop) (w : World) (v : Value) (t : ay) (n : Nat) (h : aA S w v t) (hp : t.ps.length ≤ 1000000) (hn : n < t.ps.length) :
  Calls Tryz.prog 96 #[v, .int .i64 n] w (Yw w (aS t.ps n)) := by
 obtain ⟨P, N, rfl, hP, hN⟩ := h
 have hb0 : Below w.heap.size w (w.alloc (.cells #[P, N] 39)) := (Below.refl _ _).alloc (Nat.le_refl _) _
 have hP1 := hP.keep (Kept.below hb0)
 have jN : (w.alloc (.cells #[P, N] 39)).cell? ⟨w.heap.size, 0, none⟩ = some P := by simp [World.cell?_alloc_new]
 obtain ⟨ps, ns⟩ := t
 simp only at *
 obtain ⟨p, cap, rfl, hcap, HP⟩ := aB.open hP1
 have hsz : (w.alloc (.cells #[.slice p ps.length cap, N] 39)).heap.size = w.heap.size + 1 := by simp
 have HS := aa hsz
 have gj := aa hb0
 have KQ := aa jN
 have wT := aa HP
 clear HP hP1 hP hN hb0 jN hsz
 go_enter Tryz.func96, Tryz.ntmps96
 go_wp2_with fail
 generalize hw0 : w.alloc (.cells #[.slice p ps.length cap, N] 39) = w0 at *
 clear hw0
 go_loopw [5, 6] (fun v i wr => ∃ k : Nat, n + 1 ≤ k ∧ k ≤ ps.length ∧ i = .int .i64 k ∧ aC (w.heap.size + 1) 3 wr v ((eo (bI ps n k)).map (Value.int .i64)) ∧ Below (w.heap.size + 1) w0 wr) (fun _ i _ => ps.length - (intOf i).toNat)
 case atStart => exact ⟨n + 1, Nat.le_refl _, by omega, by go_num, by rw [zI]; exact aC.nil _ _ _, Below.refl _ _⟩
 case round =>
  obtain ⟨k, hk1, hk, rfl, hown, hbr⟩ := hrel
  have jN : wr.cell? ⟨w.heap.size, 0, none⟩ = some (.slice p ps.length cap) := (hbr.cell (p := ⟨w.heap.size, 0, none⟩) (by simp)).trans KQ.out
  by_cases hlt : k < ps.length
  ·obtain ⟨b, off, rfl, hc0⟩ := wT.out k hlt
   have hc : wr.cell? ⟨b, off + k, none⟩ = some (.int .i64 (gi ps k)) := by
    rw [hbr.cell (p := ⟨b, off + k, none⟩) (by have := World.block_lt_of_cell? _ _ hc0; have := HS.out; simp at *; omega)]; exact hc0
   have hsz : w.heap.size + 1 ≤ wr.heap.size := by have := hbr.size; have := HS.out; omega
   have kr := gq ps n k
   have rF := aa kr
   have dQ : Hid (((eo (bI ps n k)).map (Value.int .i64)).length ≤ 1000000) := by
    have := pW ps n k
    unfold Hid eo; rw [List.length_map, List.length_map]; omega
   clear hc0 kr wT
   generalize DN : gi ps k = x at *
   clear DN
   by_cases hx : x = n
   ·have hx1 : (x == (n : Int)) = true := by simp [hx]
    have HX : Hid (n < k ∧ x = n) := ⟨by omega, hx⟩
    clear hx
    go_wp2_with (at_builtin; refine l9 wr rfl _ _ 26 rfl (w.heap.size + 1) 3 _ 8 Tryz.underlying26 Tryz.ki rfl (by decide) hown rfl _ rfl rfl dQ.out hsz ?_; intro g cap w2 hown1 hg1 hb1)
    go_roundw
    case rel => exact ⟨k + 1, by omega, by omega, by go_num, by rw [rF.out, if_pos HX.out, Fx, List.map_append]; rw [List.length_map] at hown1; exact hown1, hbr.trans hb1⟩
    case measure => simp [intOf]; omega
   ·have hx1 : (x == (n : Int)) = false := by simpa using hx
    have HX : Hid ¬ (n < k ∧ x = n) := fun h => hx h.2
    clear hx
    go_wp2_with fail
    go_roundw
    case rel => exact ⟨k + 1, by omega, by omega, by go_num, by rw [rF.out, if_neg HX.out, List.append_nil]; exact hown, hbr⟩
    case measure => simp [intOf]; omega
  ·obtain rfl : k = ps.length := by omega
   clear hlt hk
   go_wp2_with fail
   go_ret
   exact ⟨gj.out.trans (hbr.mono (by omega)), _, rfl, hown.ints.sub fun b hb _ => by omega⟩
end
section
open Go.RowKit Go.Deep
def ye (a b : ByteArray) : Bool := Op.bytesLess a.toList b.toList
def iP (a b : ByteArray) : ByteArray := if (ye a b || a.toList == b.toList) = true then a else b
mutual
def lstR : RT → ByteArray
 | .node nm [] => nm
 | .node _ (k :: ks) => lstRs (lstR k) ks
def lstRs (s : ByteArray) : List RT → ByteArray
 | [] => s
 | r :: rs => lstRs (iP s (lstR r)) rs
end
theorem Ep (s : ByteArray) : ∀ (a b : List RT), lstRs s (a ++ b) = lstRs (lstRs s a) b
 | [], _ => by rw [lstRs]; rfl
 | r :: a, b => by rw [List.cons_append, lstRs, lstRs]; exact Ep _ a b
theorem MA {s : ByteArray} {rs : List RT} {j : Nat} (h : j < rs.length) : lstRs s (rs.take (j + 1)) = iP (lstRs s (rs.take j)) (lstR (gr rs j)) := by
 have hg : gr rs j = rs[j] := by simp [gr, h]
 rw [List.take_succ_eq_append_getElem h, Ep, lstRs, lstRs, hg]
theorem Kb {P : Program} {w : World} (ts : Array TypeId) (t : TypeId) (x y : ByteArray) : (Builtin.min_ ts t #[.string x, .string y]).run P w = .ok (.string (iP x y)) w := by
 unfold iP ye
 simp [Builtin.min_, Builtin.min2, Op.stringOp, asBool]
theorem rj {ks : List RT} {j : Nat} (h : j < ks.length) : aH (gr ks j) ≤ sizeRs ks := by
 induction ks generalizing j with
 | nil => simp at h
 | cons k ks ih =>
  rw [sizeRs]
  cases j with
  | zero => show aH k ≤ _; omega
  | succ j =>
   have := ih (j := j) (by simpa using h)
   show aH (gr ks j) ≤ _
   omega
theorem nN : ∀ ks : List RT, ks.length ≤ sizeRs ks
 | [] => Nat.le_refl _
 | k :: ks => by
  have := nN ks
  have := gD k
  rw [sizeRs, List.length_cons]; omega
set_option maxHeartbeats 2000000 in
theorem GY (S : Nat → Prop) : ∀ (d : Nat) (r : RT), aH r ≤ d → d ≤ 1000000 → ∀ (w : World) (v : Value), RAt S w r v → Calls Tryz.prog 254 #[v] w fun e w' => e = .returned (.string (lstR r)) ∧ w = w' := by
 intro d
 induction d with
 | zero => intro r hr; have := gD r; omega
 | succ d ih =>
 intro r hr hd w v hv
 cases r with
 | node nm ks =>
  obtain ⟨b, kp, kc, vs, rfl, hS, c0, c1, hk, hs⟩ := hv.open
  simp only [RT.nm, RT.kids] at c0 c1 hk hs
  have fT := nN ks
  rw [aH] at hr
  have js : Hid (∀ j, j < ks.length → Calls Tryz.prog 254 #[vN vs j] w fun e w' => e = .returned (.string (lstR (gr ks j))) ∧ w = w') := fun j hj => by
   have := rj hj
   exact ih _ (by omega) (by omega) w _ (RsAt.get ks hs j hj)
  have HK := aa hk
  clear ih hv hS hs hk
  cases ks with
  | nil =>
   clear hr
   go_enter Tryz.func254, Tryz.ntmps254
   go_wp2_with fail
   go_ret
   exact ⟨rfl, rfl⟩
  | cons k0 rs =>
   obtain ⟨kb, ko, rfl, hc0⟩ := nM HK.out (show 0 < (k0 :: rs).length by simp)
   have d0 : (((k0 :: rs).length : Int) == 0) = false := by simp; omega
   have hpos : (0 : Int) < ((k0 :: rs).length : Int) := by rw [List.length_cons]; omega
   have HL : Hid (lstR (.node nm (k0 :: rs)) = lstRs (lstR k0) rs) := by unfold Hid; rw [lstR]
   have H0 : Hid (Calls Tryz.prog 254 #[vN vs 0] w fun e w' => e = .returned (.string (lstR k0)) ∧ w = w') := js.out 0 (by simp)
   have dQ : Hid ((k0 :: rs).length = rs.length + 1) := List.length_cons
   have jO : Hid ((k0 :: rs).length ≤ 1000000) := by unfold Hid; omega
   rw [Nat.add_zero] at hc0
   clear hr
   generalize (k0 :: rs).length = n at *
   go_enter Tryz.func254, Tryz.ntmps254
   go_wp2_with fail
   refine H0.out.mono ?_
   rintro e w' ⟨rfl, rfl⟩
   go_wp2_with fail
   go_loop [3, 4] (fun a i => ∃ j : Nat, j ≤ rs.length ∧ i = .int .i64 (j + 1 : Nat) ∧ a = .string (lstRs (lstR k0) (rs.take j))) (fun _ i => n - (intOf i).toNat)
   case atStart => exact ⟨0, Nat.zero_le _, rfl, by rw [List.take_zero, lstRs]⟩
   case round =>
    obtain ⟨j, hj, rfl, rfl⟩ := hrel
    by_cases hlt : j < rs.length
    ·obtain ⟨kb2, ko2, e2, um⟩ := nM HK.out (show j + 1 < n by have := dQ.out; omega)
     injection e2 with e2
     injection e2 with e3 e4
     subst e3; subst e4
     have HJ : Hid (Calls Tryz.prog 254 #[vN vs (j + 1)] w fun e w' => e = .returned (.string (lstR (gr rs j))) ∧ w = w') := js.out (j + 1) (by have := dQ.out; omega)
     have HT := aa (MA (s := lstR k0) hlt)
     have i1 : (0 : Int) ≤ ((j + 1 : Nat) : Int) := by omega
     have i2 : ((j + 1 : Nat) : Int) < (n : Int) := by have := dQ.out; omega
     have i3 : ((j + 1 : Nat) : Int) < 1000000 := by have := dQ.out; have := jO.out; omega
     have aV := aa hlt
     have hmin := fun ts t => Kb (P := Tryz.prog) (w := w) ts t (lstRs (lstR k0) (rs.take j)) (lstR (gr rs j))
     generalize hm : j + 1 = m at *
     clear hlt hj hc0
     go_wp2_with fail
     refine HJ.out.mono ?_
     rintro e w' ⟨rfl, rfl⟩
     go_wp2_with fail
     go_round
     case rel => exact ⟨m, by have := aV.out; omega, by go_num, by rw [HT.out]⟩
     case measure => have := aV.out; have := dQ.out; simp [intOf]; omega
    ·obtain rfl : j = rs.length := by omega
     have d1 : decide (((rs.length + 1 : Nat) : Int) < (n : Int)) = false := by simp; have := dQ.out; omega
     have hnl : ¬ (((rs.length + 1 : Nat) : Int) < (n : Int)) := by have := dQ.out; omega
     have dG := aa hnl
     go_wp2_with fail
     go_ret
     exact ⟨by rw [HL.out]; rfl, rfl⟩
end
section
def ay.app (t : ay) (r : RT) (p : Int) : ay := ⟨t.ps ++ psR r t.ps.length p, t.ns ++ cM r⟩
def ay.apps (t : ay) (rs : List RT) (own : Nat) : ay := ⟨t.ps ++ psRs rs own t.ps.length, t.ns ++ dg rs⟩
theorem GZ : ∀ (a b : List RT) (own n : Nat), psRs (a ++ b) own n = psRs a own n ++ psRs b own (n + sizeRs a)
 | [], _, _, _ => rfl
 | r :: a, b, own, n => by rw [List.cons_append, psRs, psRs, GZ a b own (n + aH r), sizeRs, List.append_assoc, Nat.add_assoc]
theorem G0 : ∀ (a b : List RT), dg (a ++ b) = dg a ++ dg b
 | [], _ => rfl
 | r :: a, b => by rw [List.cons_append, dg, dg, G0 a b, List.append_assoc]
theorem R2 (t : ay) (own : Nat) : t.apps [] own = t := by simp [ay.apps, psRs, dg]
theorem O2 (t : ay) (a b : List RT) (own : Nat) : (t.apps a own).apps b own = t.apps (a ++ b) own := by
 unfold ay.apps
 rw [GZ, G0, List.append_assoc, List.append_assoc, List.length_append, oJ]
theorem R3 (t : ay) (a : List RT) (r : RT) (own : Nat) : (t.apps a own).app r (own : Int) = t.apps (a ++ [r]) own := by
 rw [← O2]
 simp [ay.apps, ay.app, psRs, dg]
end
section
open Go.RowKit Go.Deep
theorem Tryz.p7 : (Tryz.prog.info? 210).map (fun i => (i.zero, i.size, i.bytes)) = some (some (.pointer none), 1, 8) := by kernel_rfl
structure G1 (w1 : World) (base B : Nat) (nm : ByteArray) (kl : List Int) (kp : Option Addr) (kc : Nat) (wr : World) (kv : Value) (rs : List RT) : Prop where
 tj : kD base B wr nm kv rs
 up : Up w1 wr
 ints : aq (fun b => b ≠ B ∧ kv.ownBlock ≠ some b) wr (.slice kp kl.length kc) kl
 lo : w1.heap.size ≤ B
theorem lK (w : World) : Up w w.drew := Up.drewN w 1
theorem G1.push {w1 : World} {base B : Nat} {nm : ByteArray} {kl : List Int} {kp : Option Addr} {kc : Nat} {wr w2 : World} {kv : Value} {rs : List RT} (h : G1 w1 base B nm kl kp kc wr kv rs) {r : RT} {u : Value} (hu : Up wr w2) (hr : RAt (fun b => wr.heap.size ≤ b) w2 r u) :
  ∃ vs : List Value, vs.length = rs.length ∧ aC (B + 1) 210 (w2.alloc (.cells #[u] 210)) kv vs ∧ B + 1 ≤ (w2.alloc (.cells #[u] 210)).heap.size ∧
   (∀ W, (w2.alloc (.cells #[u] 210)).grownBy W kv.ownBlock → W.cell? ⟨B, 1, none⟩ = some kv ∧ W.frozen? ⟨B, 1, none⟩ = false ∧ (∀ b o v, b < w1.heap.size → w1.cell? ⟨b, o, none⟩ = some v → W.cell? ⟨b, o, none⟩ = some v) ∧ aq (fun b => b ≠ B ∧ kv.ownBlock ≠ some b) W (.slice kp kl.length kc) kl) ∧
   ∀ g c W, aC (B + 1) 210 W (.slice (some ⟨g, 0, none⟩) (vs.length + 1) c) (vs ++ [u]) → (w2.alloc (.cells #[u] 210)).grownBy W kv.ownBlock → (kv.ownBlock = some g ∨ g = (w2.alloc (.cells #[u] 210)).heap.size) →
    G1 w1 base B nm kl kp kc (W.setCell ⟨B, 1, none⟩ (.slice (some ⟨g, 0, none⟩) (vs.length + 1) c)) (.slice (some ⟨g, 0, none⟩) (vs.length + 1) c) (rs ++ [r]) := by
 have bf := Up.alloc w2 (.cells #[u] 210)
 have hW := (h.tj.up hu).up bf
 have hBl := h.tj.lt
 have hsz := hu.size
 have uH : (w2.alloc (.cells #[u] 210)).heap.size = w2.heap.size + 1 := World.size_alloc _ _
 obtain ⟨vs, ho, hv⟩ := hW.kids
 obtain ⟨UT, zJ, _⟩ := h.tj.kids
 have hkb : ∀ b, kv.ownBlock = some b → b < wr.heap.size ∧ B < b := fun b hb => ⟨(aF zJ hb).2, by have := (aF zJ hb).1; omega⟩
 have hi2 : aq (fun b => b ≠ B ∧ kv.ownBlock ≠ some b) (w2.alloc (.cells #[u] 210)) (.slice kp kl.length kc) kl := aq.keep h.ints ((hu.trans bf).kept _)
 have UU : ∀ W, (w2.alloc (.cells #[u] 210)).grownBy W kv.ownBlock → aq (fun b => b ≠ B ∧ kv.ownBlock ≠ some b) W (.slice kp kl.length kc) kl := fun W hg =>
  aq.keep hi2 fun b hb hl => hg.block b hl fun e => hb.2 e.symm
 refine ⟨vs, RsAt.len rs hv, ho, by omega, fun W hg => ?_, fun g c W hown hg ep => ?_⟩
 ·have hc := hW.cells
  have O3 : some B ≠ kv.ownBlock := fun e => by have := (hkb B e.symm).2; omega
  have hBa : B < (w2.alloc (.cells #[u] 210)).heap.size := by omega
  refine ⟨?_, ?_, fun b o v hb hcb => ?_, UU W hg⟩
  ·rw [hg.cell_far (a := ⟨B, 1, none⟩) hBa O3]; exact hc.2.1
  ·rw [hg.frozen_far (a := ⟨B, 1, none⟩) hBa O3]; exact hc.2.2.2
  ·have h1 := ((h.up.trans hu).trans bf)
   have hlo := h.lo
   rw [hg.cell_far _ (Nat.lt_of_lt_of_le hb h1.size) (fun e => by have := (hkb b e.symm).2; omega)]
   exact h1.cell hcb
 ·have MB : ∀ b, (Value.slice (some ⟨g, 0, none⟩) (vs.length + 1) c).ownBlock = some b → kv.ownBlock = some b ∨ (w2.alloc (.cells #[u] 210)).heap.size ≤ b := fun b hb => by
   injection hb with hb
   have hb : g = b := hb
   subst hb
   rcases ep with h1 | h1
   ·exact .inl h1
   ·exact .inr (by omega)
  have hlo := h.lo
  have hw := h.tj.lo
  refine ⟨hW.push (RAt.keep (bf.kept _) r hr) (by omega) hBl (fun b hb => (hkb b hb).1) hv hown hg MB, ?_, ?_, h.lo⟩
  ·have h1 := (h.up.trans hu).trans bf
   refine ⟨hg.os.trans h1.os, hg.tape.trans h1.tape, hg.output.trans h1.output, ?_, fun b hb => ?_⟩
   ·have := h1.size; have := hg.size; simp only [World.size_setCell]; omega
   ·rw [blk_setCell_other _ _ _ _ (by omega : b ≠ B), hg.block b (Nat.lt_of_lt_of_le hb h1.size) (fun e => by have := (hkb b e.symm).2; omega)]
    exact h1.block b hb
  ·have h2 := UU W hg
   have h3 : aq (fun b => b ≠ B ∧ kv.ownBlock ≠ some b ∧ (Value.slice (some ⟨g, 0, none⟩) (vs.length + 1) c).ownBlock ≠ some b) (w2.alloc (.cells #[u] 210)) (.slice kp kl.length kc) kl := aq.sub hi2 fun b hb hl => ⟨hb.1, hb.2, fun e => by
    rcases MB b e with h5 | h5
    ·exact hb.2 h5
    ·omega⟩
   have h4 := aq.keep (w' := W.setCell ⟨B, 1, none⟩ (.slice (some ⟨g, 0, none⟩) (vs.length + 1) c)) h3 fun b hb hl => (blk_setCell_other _ _ _ _ hb.1).trans (hg.block b hl fun e => hb.2.1 e.symm)
   exact aq.sub h4 fun b hb _ => ⟨hb.1, hb.2.2⟩
theorem R4 {S : Nat → Prop} {w : World} {b off n cap : Nat} {xs : List Int} (h : aq S w (.slice (some ⟨b, off, none⟩) n cap) xs) {k : Nat} (hk : k < xs.length) : w.cell? ⟨b, off + k, none⟩ = some (.int .i64 (gi xs k)) := by
 obtain ⟨b', o', e, hc⟩ := cK h hk
 injection e with e
 injection e with e1 e2
 subst e1; subst e2; exact hc
def C7 (w : World) (r : RT) (e : Ending) (w' : World) : Prop := Up w w' ∧ ∃ u, e = .returned u ∧ RAt (fun b => w.heap.size ≤ b) w' r u
theorem Er {l : List Nat} {k : Nat} (h : k < l.length) : gi (eo l) k = (l[k] : Nat) := by simp [gi, eo, h]
theorem oO {S : Nat → Prop} {w : World} {r : RT} {u : Value} (h : RAt S w r u) : ∃ b, u = .pointer (some ⟨b, 0, none⟩) := by
 obtain ⟨b, _, _, _, e, _⟩ := h.open
 exact ⟨b, e⟩
set_option maxHeartbeats 4000000 in
theorem K8 (S : Nat → Prop) (t : ay) (ht : az t = 0) : ∀ (d n : Nat), cu t n ≤ d → n < t.ps.length → ∀ (w : World) (v : Value), aA S w v t → Calls Tryz.prog 207 #[v, .int .i64 n] w (C7 w (aN (ew t) (cu t) n)) := by
 intro d
 induction d with
 | zero => intro n hd hn; unfold cu at hd; omega
 | succ d ih =>
 intro n hd hn w v hT
 obtain ⟨_, CX, hnl, hpk, _⟩ := aD ht
 have hwf := (dz ht).wf
 obtain ⟨P, N, rfl, hP, hN⟩ := hT
 obtain ⟨pp, pc, rfl, _, _⟩ := aB.open hP
 obtain ⟨np, nc, rfl, _, _⟩ := aB.open hN
 have hP : aq S w (.slice pp t.ps.length pc) t.ps := hP
 have hN : ah S w (.slice np t.ns.length nc) t.ns := hN
 have bf := Up.alloc w (.cells #[.slice pp t.ps.length pc, .slice np t.ns.length nc] 39)
 have b0 := dW w (.slice pp t.ps.length pc) (.slice np t.ns.length nc) 39
 have b1 := eu w (.slice pp t.ps.length pc) (.slice np t.ns.length nc) 39
 have hsz : (w.alloc (.cells #[.slice pp t.ps.length pc, .slice np t.ns.length nc] 39)).heap.size = w.heap.size + 1 := World.size_alloc _ _
 have Es : Hid (aA S (w.alloc (.cells #[.slice pp t.ps.length pc, .slice np t.ns.length nc] 39)) (.agg #[.slice pp t.ps.length pc, .slice np t.ns.length nc]) t) := aA.keep ⟨_, _, rfl, hP, hN⟩ (bf.kept S)
 obtain ⟨sb, so, rfl, hsc⟩ := bz (ah.keep hN (bf.kept S)) (k := n) (by rw [hnl]; exact hn)
 have hn2 : (n : Int) < (t.ns.length : Int) := by omega
 have hn0 : (0 : Int) ≤ (n : Int) := by omega
 have gj := aa b0
 have gm := aa b1
 have HU := aa bf
 have ct := aa hsz
 have HN := aa hn
 have Yx := aa CX
 have js : Hid (∀ c ∈ aS t.ps n, ∀ W u, aA S W u t → Calls Tryz.prog 207 #[u, .int .i64 (c : Nat)] W (C7 W (aN (ew t) (cu t) c))) := fun c hc W u hu => by
  have hk := hwf.kid n hn c hc
  exact ih c (by omega) hk.1 W u hu
 have HRF : Hid (aN (ew t) (cu t) n = .node (gs t.ns n) ((aS t.ps n).map (aN (ew t) (cu t)))) := di hwf hn
 have iB : Hid ((aS t.ps n).length ≤ 64) := by have := nK t n; rw [iN] at this; unfold Hid; omega
 clear bf hP hN hnl hpk ih hd hn hwf
 go_enter Tryz.func207, Tryz.ntmps207
 go_wp2_with fail
 generalize w.alloc (.cells #[.slice pp t.ps.length pc, .slice (some ⟨sb, so, none⟩) t.ns.length nc] 39) = w1 at *
 have hst := kD.start w1 (base := w.heap.size) (by rw [ct.out]; omega) (gs t.ns n)
 have R5 := Up.alloc w1 (.cells #[.string (gs t.ns n), .slice none 0 0] 254)
 have hs1 : (w1.alloc (.cells #[.string (gs t.ns n), .slice none 0 0] 254)).heap.size = w1.heap.size + 1 := World.size_alloc _ _
 refine (K7 S _ _ t n (Es.out.keep (R5.kept S)) (by omega) HN.out).mono ?_
 rintro e w2 ⟨aG, kvv, rfl, hki⟩
 have aG : Up (w1.alloc (.cells #[.string (gs t.ns n), .slice none 0 0] 254)) w2 := aG
 obtain ⟨kp, kc, rfl, _, _⟩ := aB.open hki
 have hG0 : G1 w1 w.heap.size (w.heap.size + 1) (gs t.ns n) (eo (aS t.ps n)) kp kc w2 (.slice none 0 0) (((aS t.ps n).take 0).map (aN (ew t) (cu t))) := by
  rw [ct.out] at hst hs1
  exact ⟨hst.up aG, R5.trans aG, aq.sub hki fun b hb _ => ⟨by rw [hs1] at hb; omega, fun e => by cases e⟩, by rw [ct.out]; exact Nat.le_refl _⟩
 have uo := aa hG0
 clear hst R5 hs1 aG hki hG0 b0 b1
 have gO : (eo (aS t.ps n)).length = (aS t.ps n).length := by simp [eo]
 rw [gO]
 obtain ⟨L, hL⟩ : ∃ L, L = aS t.ps n := ⟨_, rfl⟩
 rw [← hL] at iB js HRF uo ⊢
 clear hL gO
 go_wp2_with fail
 go_loopw [7] (fun i wr => ∃ (k : Nat) (kv : Value), k ≤ L.length ∧ i = .int .i64 k ∧ Hid (G1 w1 w.heap.size (w.heap.size + 1) (gs t.ns n) (eo L) kp kc wr kv ((L.take k).map (aN (ew t) (cu t))))) (fun i _ => L.length - (intOf i).toNat)
 case atStart => exact ⟨0, _, Nat.zero_le _, rfl, uo.out⟩
 case round =>
  obtain ⟨k, kv, hk, rfl, hG⟩ := hrel
  obtain ⟨wo, rfl⟩ : ∃ wo : World, wo = wr := ⟨_, rfl⟩
  by_cases hlt : k < L.length
  ·have hc := hG.out.tj.cells
   have fT : k < (eo L).length := by simp [eo]; exact hlt
   obtain ⟨ib, io, rfl, hic⟩ := cK hG.out.ints fT
   rw [Er hlt] at hic
   have HCM : Hid (L[k] ∈ L) := List.getElem_mem hlt
   have gV : Hid ((L.take (k + 1)).map (aN (ew t) (cu t)) = (L.take k).map (aN (ew t) (cu t)) ++ [aN (ew t) (cu t) L[k]]) := by
    unfold Hid; rw [List.take_succ_eq_append_getElem hlt, List.map_append]; rfl
   have HCG : Hid (gi (eo L) k = (L[k] : Nat)) := Er hlt
   generalize L[k] = c at *
   have gw : Hid (∀ W, Up wo W → Calls Tryz.prog 207 #[.agg #[.slice pp t.ps.length pc, .slice (some ⟨sb, so, none⟩) t.ns.length nc], .int .i64 (c : Nat)] W (C7 W (aN (ew t) (cu t) c))) := fun W hW => js.out c HCM.out W _ (Es.out.keep ((hG.out.up.trans hW).kept S))
   generalize aN (ew t) (cu t) c = r at *
   have hk1 := hc.2.1
   have hk2 := hc.2.2.2
   have hb0 := hG.out.up.cell gj.out
   have hb1 := hG.out.up.cell gm.out
   have i1 : (0 : Int) ≤ (k : Int) := by omega
   have i2 : (k : Int) < (L.length : Int) := by omega
   have i3 : (k : Int) < 64 := by have := iB.out; omega
   have aV := aa hlt
   have oh : Hid (∀ W, Up wo W → W.cell? ⟨w.heap.size + 1, 1, none⟩ = some kv ∧ W.cell? ⟨w.heap.size, 0, none⟩ = some (.slice pp t.ps.length pc) ∧ W.cell? ⟨w.heap.size, 1, none⟩ = some (.slice (some ⟨sb, so, none⟩) t.ns.length nc) ∧ W.cell? ⟨ib, io + k, none⟩ = some (.int .i64 (c : Nat))) := fun W hW => ⟨hW.cell hk1, hW.cell hb0, hW.cell hb1, hW.cell hic⟩
   have UW := aa hG.out
   clear hc fT hk hlt hG
   go_wp2_with fail
   refine dM (by kernel_rfl) 16 (fun w' => w'.cell? ⟨w.heap.size + 1, 1, none⟩ = some kv ∧ w'.cell? ⟨w.heap.size, 0, none⟩ = some (.slice pp t.ps.length pc) ∧ w'.cell? ⟨w.heap.size, 1, none⟩ = some (.slice (some ⟨sb, so, none⟩) t.ns.length nc) ∧ w'.cell? ⟨ib, io + k, none⟩ = some (.int .i64 (c : Nat))) (oh.out _ (lK wo)) (fun hS => ?_)
   simp only [List.size_toArray, List.length_cons, List.length_nil, Nat.reduceAdd, Array.replicate_succ, Array.replicate_zero, List.push_toArray, List.nil_append, List.cons_append]
   refine af.take (i := 0) (v := ?Ou) rfl (by kernel_rfl) (fun _ _ _ h => h) (by rfl) (fun w hSw => ?xV) hS ?Ov
   case xV =>
    (try dsimp only at hSw)
    go_simp
    try with_reducible rfl
   try simp only [Act.put, au, av, ax]
   refine af.take (i := 1) (v := ?Ow) rfl (by kernel_rfl) (fun _ _ _ h => h) (by rfl) (fun w hSw => ?xW) hS ?Ox
   case xW =>
    (try dsimp only at hSw)
    go_simp
    try with_reducible rfl
   try simp only [Act.put, au, av, ax]
   refine af.take (i := 2) (v := ?Oy) rfl (by kernel_rfl) (fun _ _ _ h => h) (by rfl) (fun w hSw => ?xX) hS ?Oz
   case xX =>
    (try dsimp only at hSw)
    go_simp
    try with_reducible rfl
   try simp only [Act.put, au, av, ax]
   refine af.take (i := 3) (v := ?XO) rfl (by kernel_rfl) (fun _ _ _ h => h) (by rfl) (fun w hSw => ?Gm) hS ?XP
   case Gm =>
    (try dsimp only at hSw)
    go_simp
    try with_reducible rfl
   try simp only [Act.put, au, av, ax]
   refine af.take (i := 4) (v := ?XQ) rfl (by kernel_rfl) (fun _ _ _ h => h) (by rfl) (fun w hSw => ?Gn) hS ?XR
   case Gn =>
    (try dsimp only at hSw)
    go_simp
    try with_reducible rfl
   try simp only [Act.put, au, av, ax]
   refine af.take (i := 5) (v := ?XS) rfl (by kernel_rfl) (fun _ _ _ h => h) (by rfl) (fun w hSw => ?Gp) hS ?XT
   case Gp =>
    (try dsimp only at hSw)
    go_simp
    try with_reducible rfl
   try simp only [Act.put, au, av, ax]
   refine af.take (i := 6) (v := ?XU) rfl (by kernel_rfl) (fun _ _ _ h => h) (by rfl) (fun w hSw => ?Gq) hS ?XV
   case Gq =>
    (try dsimp only at hSw)
    go_simp
    try with_reducible rfl
   try simp only [Act.put, au, av, ax]
   refine af.take (i := 7) (v := ?UD) rfl (by kernel_rfl) (fun _ _ _ h => h) (by rfl) (fun w hSw => ?BF) hS ?UE
   case BF =>
    (try dsimp only at hSw)
    go_simp
    try with_reducible rfl
   try simp only [Act.put, au, av, ax]
   refine af.take (i := 8) (v := ?UF) rfl (by kernel_rfl) (fun _ _ _ h => h) (by rfl) (fun w hSw => ?BG) hS ?UG
   case BG =>
    (try dsimp only at hSw)
    go_simp
    try with_reducible rfl
   try simp only [Act.put, au, av, ax]
   refine af.take (i := 9) (v := ?UH) rfl (by kernel_rfl) (fun _ _ _ h => h) (by rfl) (fun w hSw => ?BH) hS ?UI
   case BH =>
    (try dsimp only at hSw)
    go_simp
    try with_reducible rfl
   try simp only [Act.put, au, av, ax]
   refine af.step (i := 10) rfl (by kernel_rfl) (fun K' hK => ?_)
   go_simp
   refine (gw.out _ (lK wo)).mono ?_
   rintro e w3 ⟨bX, u, rfl, hr3⟩
   have bX : Up wo.drew w3 := bX
   obtain ⟨ub, rfl⟩ := oO hr3
   have dc := aa ((lK wo).trans bX)
   obtain ⟨vs, hvl, hown, rI, Yy, BQ⟩ := UW.out.push dc.out hr3
   have HOW := aa hown
   have og := aa rI
   have Gl := aa Yy
   have BD := aa BQ
   have HVL : Hid (vs.length ≤ 1000000) := by
    have := aV.out; have := iB.out; rw [List.length_map, List.length_take] at hvl; unfold Hid; omega
   have ij : Hid ((w3.alloc (.cells #[.pointer (some ⟨ub, 0, none⟩)] 210)).cell? ⟨w3.heap.size, 0, none⟩ = some (.pointer (some ⟨ub, 0, none⟩))) := xP _ _ _
   clear bX hr3 hown rI Yy BQ hvl
   refine hK.out _ _ (fun _ => oh.out _ dc.out) (fun hS => ?_)
   replace hS := hS ⟨11, by decide, rfl⟩
   try simp only [au, av, ax]
   refine af.step (i := 11) rfl (by kernel_rfl) (fun K' hK => ?_)
   go_simp
   refine hK.out _ _ (fun _ => oh.out _ (dc.out.trans (Up.alloc _ _))) (fun hS => ?_)
   replace hS := hS ⟨12, by decide, rfl⟩
   try simp only [au, av, ax]
   refine af.step (i := 12) rfl (by kernel_rfl) (fun K' hK => ?_)
   refine fN (by rfl) _ _ _ (by rfl) (w.heap.size + 1 + 1) 210 _ 8 Tryz.underlying252 Tryz.p7 (by rfl) (by decide) (by rfl) HOW.out (.pointer (some ⟨ub, 0, none⟩)) w3.heap.size (by rfl) ij.out (by rfl) HVL.out og.out ?_
   intro g cap w4 s9 hg4 xY Gw
   obtain ⟨q1, q2, q3, q4⟩ := Gl.out w4 hg4
   have q5 : w4.cell? ⟨ib, io + k, none⟩ = some (.int .i64 (c : Nat)) := by rw [R4 q4 (by simp [eo]; exact aV.out), HCG.out]
   have q6 := q3 _ _ _ (by rw [ct.out]; omega) gj.out
   have q7 := q3 _ _ _ (by rw [ct.out]; omega) gm.out
   have OA := aa (BD.out g cap w4 s9 hg4 xY)
   clear s9 hg4 xY Gw q3 q4
   refine hK.out _ _ (fun _ => ⟨q1, q6, q7, q5⟩) (fun hS => ?_)
   replace hS := hS ⟨15, by decide, rfl⟩
   try simp only [Act.put, au, av, ax]
   refine af.take (i := 13) (v := ?X0) rfl (by kernel_rfl) (fun _ _ _ h => h) (by rfl) (fun w hSw => ?Gt) hS ?X3
   case Gt =>
    (try dsimp only at hSw)
    go_simp
    try with_reducible rfl
   try simp only [Act.put, au, av, ax]
   refine af.take (i := 14) (v := ?X4) rfl (by kernel_rfl) (fun _ _ _ h => h) (by rfl) (fun w hSw => ?Gu) hS ?X5
   case Gu =>
    (try dsimp only at hSw)
    go_simp
    try with_reducible rfl
   try simp only [Act.put, au, av, ax]
   refine af.step (i := 15) rfl (by kernel_rfl) (fun K' hK => ?_)
   go_simp
   refine hK.out _ _ (aJ (by kernel_rfl)) (fun hS => ?_)
   refine af.done (by kernel_rfl) ?_
   go_wp2_with fail
   go_roundw
   case rel => exact ⟨k + 1, _, aV.out, by go_num, by rw [gV.out]; exact OA.out⟩
   case measure => have := aV.out; simp [intOf]; omega
  ·obtain rfl : k = L.length := by omega
   have UW := aa hG.out
   clear hG
   go_wp2_with fail
   go_ret
   refine ⟨HU.out.trans UW.out.up, _, rfl, ?_⟩
   have h := UW.out.tj.done
   rw [List.take_length] at h
   rw [HRF.out]; exact h
end
end Go.Proofs.YthgabkgmkolobaaGreat
