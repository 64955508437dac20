/- The contract of layer 31's reference's least. Rose trees appended to a tree that is numbered depth first. The contract of layer 31's reference's grow: the rose tree of a node. What sharederror.Tree computes, plain; slices.Clone of strings. Contracts: Great of layer 35, fine, Support, Original, Significant. -/
import Derived.Test.YtpnmblnahjjmhaaGreatQ1
import Derived.Test.YtpnmblnahjjmhaaGreatQ13
import Derived.Test.YtpnmblnahjjmhaaGreatQ11
namespace Go.Proofs.YtpnmblnahjjmhaaGreat
set_option maxRecDepth 100000
section
open Go.RowKit Go.Deep
def xV (a b : ByteArray) : Bool := Op.bytesLess a.toList b.toList
def jB (a b : ByteArray) : ByteArray := if (xV a b || a.toList == b.toList) = true then a else b
mutual
def lstR : RT → ByteArray
 | .node nm [] => nm
 | .node _ (k :: ks) => lstRs (lstR k) ks
def lstRs (s : ByteArray) : List RT → ByteArray
 | [] => s
 | r :: rs => lstRs (jB s (lstR r)) rs
end
theorem D0 (s : ByteArray) : ∀ (a b : List RT), lstRs s (a ++ b) = lstRs (lstRs s a) b
 | [], _ => by rw [lstRs]; rfl
 | r :: a, b => by rw [List.cons_append, lstRs, lstRs]; exact D0 _ a b
theorem Me {s : ByteArray} {rs : List RT} {j : Nat} (h : j < rs.length) : lstRs s (rs.take (j + 1)) = jB (lstRs s (rs.take j)) (lstR (gr rs j)) := by
 have hg : gr rs j = rs[j] := by simp [gr, h]
 rw [List.take_succ_eq_append_getElem h, D0, lstRs, lstRs, hg]
theorem JD {P : Program} {w : World} (ts : Array TypeId) (t : TypeId) (x y : ByteArray) : (Builtin.min_ ts t #[.string x, .string y]).run P w = .ok (.string (jB x y)) w := by
 unfold jB xV
 simp [Builtin.min_, Builtin.min2, Op.stringOp, asBool]
theorem uW {ks : List RT} {j : Nat} (h : j < ks.length) : aS (gr ks j) ≤ sizeRs ks := by
 induction ks xW j with
 | nil => simp at h
 | cons k ks ih =>
  rw [sizeRs]
  cases j with
  | zero => show aS k ≤ _; omega
  | succ j =>
   have := ih (j := j) (by simpa using h)
   show aS (gr ks j) ≤ _
   omega
theorem qX : ∀ ks : List RT, ks.length ≤ sizeRs ks
 | [] => Nat.le_refl _
 | k :: ks => by
  have := qX ks
  have := jX k
  rw [sizeRs, List.length_cons]; omega
set_option maxHeartbeats 2000000 in
theorem Gd (S : Nat → Prop) : ∀ (d : Nat) (r : RT), aS r ≤ d → d ≤ 1000000 → ∀ (w : World) (v : Value), RAt S w r v → Calls Tryz.prog 242 #[v] w fun e w' => e = .returned (.string (lstR r)) ∧ w = w' := by
 intro d
 induction d with
 | zero => intro r hr; have := jX r; omega
 | succ d ih =>
 intro r hr hd w v hv
 cases r with
 | node nm ks =>
  obtain ⟨b, kp, kc, vs, rfl, hS, c0, c1, hk, hs⟩ := hv.open
  simp only [RT.nm, RT.kids] at c0 c1 hk hs
  have iO := qX ks
  rw [aS] at hr
  have k7 : Hid (∀ j, j < ks.length → Calls Tryz.prog 242 #[vN vs j] w fun e w' => e = .returned (.string (lstR (gr ks j))) ∧ w = w') := fun j hj => by
   have := uW hj
   exact ih _ (by omega) (by omega) w _ (RsAt.get ks hs j hj)
  have HK := ag hk
  clear ih hv hS hs hk
  cases ks with
  | nil =>
   clear hr
   aq Tryz.func242, Tryz.ntmps242
   aa fail
   ax
   exact ⟨rfl, rfl⟩
  | cons k0 rs =>
   obtain ⟨kb, ko, rfl, hc0⟩ := qt HK.out (show 0 < (k0 :: rs).length by simp)
   have d0 : (((k0 :: rs).length : Int) == 0) = false := by simp; omega
   have hpos : (0 : Int) < ((k0 :: rs).length : Int) := by rw [List.length_cons]; omega
   have HL : Hid (lstR (.node nm (k0 :: rs)) = lstRs (lstR k0) rs) := by unfold Hid; rw [lstR]
   have H0 : Hid (Calls Tryz.prog 242 #[vN vs 0] w fun e w' => e = .returned (.string (lstR k0)) ∧ w = w') := k7.out 0 (by simp)
   have dW : Hid ((k0 :: rs).length = rs.length + 1) := List.length_cons
   have jk : Hid ((k0 :: rs).length ≤ 1000000) := by unfold Hid; omega
   rw [Nat.add_zero] at hc0
   clear hr
   generalize (k0 :: rs).length = n at *
   aq Tryz.func242, Tryz.ntmps242
   aa fail
   refine H0.out.mono ?_
   rintro e w' ⟨rfl, rfl⟩
   aa fail
   dD [3, 4] (fun a i => ∃ j : Nat, j ≤ rs.length ∧ i = .int .i64 (j + 1 : Nat) ∧ a = .string (lstRs (lstR k0) (rs.take j))) (fun _ i => n - (intOf i).toNat)
   case atStart => exact ⟨0, Nat.zero_le _, rfl, by rw [List.take_zero, lstRs]⟩
   case round =>
    obtain ⟨j, hj, rfl, rfl⟩ := bE
    by_cases hlt : j < rs.length
    ·obtain ⟨kb2, ko2, e2, xx⟩ := qt HK.out (show j + 1 < n by have := dW.out; omega)
     injection e2 with e2
     injection e2 with e3 e4
     subst e3; subst e4
     have HJ : Hid (Calls Tryz.prog 242 #[vN vs (j + 1)] w fun e w' => e = .returned (.string (lstR (gr rs j))) ∧ w = w') := k7.out (j + 1) (by have := dW.out; omega)
     have HT := ag (Me (s := lstR k0) hlt)
     have i1 : (0 : Int) ≤ ((j + 1 : Nat) : Int) := by omega
     have i2 : ((j + 1 : Nat) : Int) < (n : Int) := by have := dW.out; omega
     have i3 : ((j + 1 : Nat) : Int) < 1000000 := by have := dW.out; have := jk.out; omega
     have aU := ag hlt
     have hmin := fun ts t => JD (P := Tryz.prog) (w := w) ts t (lstRs (lstR k0) (rs.take j)) (lstR (gr rs j))
     generalize hm : j + 1 = m at *
     clear hlt hj hc0
     aa fail
     refine HJ.out.mono ?_
     rintro e w' ⟨rfl, rfl⟩
     aa fail
     cz
     case rel => exact ⟨m, by have := aU.out; omega, by aH, by rw [HT.out]⟩
     case measure => have := aU.out; have := dW.out; simp [intOf]; omega
    ·obtain rfl : j = rs.length := by omega
     have d1 : decide (((rs.length + 1 : Nat) : Int) < (n : Int)) = false := by simp; have := dW.out; omega
     have hnl : ¬ (((rs.length + 1 : Nat) : Int) < (n : Int)) := by have := dW.out; omega
     have iY := ag hnl
     aa fail
     ax
     exact ⟨by rw [HL.out]; rfl, rfl⟩
end
section
def aJ.app (t : aJ) (r : RT) (p : Int) : aJ := ⟨t.ps ++ psR r t.ps.length p, t.ns ++ cT r⟩
def aJ.apps (t : aJ) (rs : List RT) (own : Nat) : aJ := ⟨t.ps ++ psRs rs own t.ps.length, t.ns ++ cR rs⟩
theorem Ge : ∀ (a b : List RT) (own n : Nat), psRs (a ++ b) own n = psRs a own n ++ psRs b own (n + sizeRs a)
 | [], _, _, _ => rfl
 | r :: a, b, own, n => by rw [List.cons_append, psRs, psRs, Ge a b own (n + aS r), sizeRs, List.append_assoc, Nat.add_assoc]
theorem Gf : ∀ (a b : List RT), cR (a ++ b) = cR a ++ cR b
 | [], _ => rfl
 | r :: a, b => by rw [List.cons_append, cR, cR, Gf a b, List.append_assoc]
theorem Av (t : aJ) (own : Nat) : t.apps [] own = t := by simp [aJ.apps, psRs, cR]
theorem OH (t : aJ) (a b : List RT) (own : Nat) : (t.apps a own).apps b own = t.apps (a ++ b) own := by
 unfold aJ.apps
 rw [Ge, Gf, List.append_assoc, List.append_assoc, List.length_append, lB]
theorem Aw (t : aJ) (a : List RT) (r : RT) (own : Nat) : (t.apps a own).app r (own : Int) = t.apps (a ++ [r]) own := by
 rw [← OH]
 simp [aJ.apps, aJ.app, psRs, cR]
end
section
open Go.RowKit Go.Deep
theorem Tryz.xX : (Tryz.prog.info? 184).map (fun i => (i.zero, i.size, i.bytes)) = some (some (.pointer none), 1, 8) := by af
structure Gg (w1 : World) (base B : Nat) (nm : ByteArray) (kl : List Int) (kp : Option Addr) (kc : Nat) (wr : World) (kv : Value) (rs : List RT) : Prop where
 Kl : mN base B wr nm kv rs
 up : Up w1 wr
 ints : an (fun b => b ≠ B ∧ kv.ownBlock ≠ some b) wr (.slice kp kl.length kc) kl
 lo : w1.heap.size ≤ B
theorem fE (w : World) : Up w w.drew := Up.drewN w 1
theorem Gg.push {w1 : World} {base B : Nat} {nm : ByteArray} {kl : List Int} {kp : Option Addr} {kc : Nat} {wr w2 : World} {kv : Value} {rs : List RT} (h : Gg w1 base B nm kl kp kc wr kv rs) {r : RT} {u : Value} (hu : Up wr w2) (hr : RAt (fun b => wr.heap.size ≤ b) w2 r u) :
  ∃ vs : List Value, vs.length = rs.length ∧ ay (B + 1) 184 (w2.alloc (.cells #[u] 184)) kv vs ∧ B + 1 ≤ (w2.alloc (.cells #[u] 184)).heap.size ∧
   (∀ W, (w2.alloc (.cells #[u] 184)).grownBy W kv.ownBlock → W.cell? ⟨B, 1, none⟩ = some kv ∧ W.frozen? ⟨B, 1, none⟩ = false ∧ (∀ b o v, b < w1.heap.size → w1.cell? ⟨b, o, none⟩ = some v → W.cell? ⟨b, o, none⟩ = some v) ∧ an (fun b => b ≠ B ∧ kv.ownBlock ≠ some b) W (.slice kp kl.length kc) kl) ∧
   ∀ g c W, ay (B + 1) 184 W (.slice (some ⟨g, 0, none⟩) (vs.length + 1) c) (vs ++ [u]) → (w2.alloc (.cells #[u] 184)).grownBy W kv.ownBlock → (kv.ownBlock = some g ∨ g = (w2.alloc (.cells #[u] 184)).heap.size) →
    Gg w1 base B nm kl kp kc (W.setCell ⟨B, 1, none⟩ (.slice (some ⟨g, 0, none⟩) (vs.length + 1) c)) (.slice (some ⟨g, 0, none⟩) (vs.length + 1) c) (rs ++ [r]) := by
 have dY := Up.alloc w2 (.cells #[u] 184)
 have hW := (h.Kl.up hu).up dY
 have Gc := h.Kl.lt
 have hsz := hu.size
 have Km : (w2.alloc (.cells #[u] 184)).heap.size = w2.heap.size + 1 := World.size_alloc _ _
 obtain ⟨vs, ho, hv⟩ := hW.kids
 obtain ⟨vs0, Kk, _⟩ := h.Kl.kids
 have hkb : ∀ b, kv.ownBlock = some b → b < wr.heap.size ∧ B < b := fun b hb => ⟨(aD Kk hb).2, by have := (aD Kk hb).1; omega⟩
 have hi2 : an (fun b => b ≠ B ∧ kv.ownBlock ≠ some b) (w2.alloc (.cells #[u] 184)) (.slice kp kl.length kc) kl := an.keep h.ints ((hu.trans dY).kept _)
 have Gh : ∀ W, (w2.alloc (.cells #[u] 184)).grownBy W kv.ownBlock → an (fun b => b ≠ B ∧ kv.ownBlock ≠ some b) W (.slice kp kl.length kc) kl := fun W hg =>
  an.keep hi2 fun b hb hl => hg.block b hl fun e => hb.2 e.symm
 refine ⟨vs, RsAt.len rs hv, ho, by omega, fun W hg => ?_, fun g c W hown hg fC => ?_⟩
 ·have hc := hW.cells
  have hBo : some B ≠ kv.ownBlock := fun e => by have := (hkb B e.symm).2; omega
  have hBa : B < (w2.alloc (.cells #[u] 184)).heap.size := by omega
  refine ⟨?_, ?_, fun b o v hb hcb => ?_, Gh W hg⟩
  ·rw [hg.cell_far (a := ⟨B, 1, none⟩) hBa hBo]; exact hc.2.1
  ·rw [hg.frozen_far (a := ⟨B, 1, none⟩) hBa hBo]; exact hc.2.2.2
  ·have h1 := ((h.up.trans hu).trans dY)
   have hlo := h.lo
   rw [hg.cell_far _ (Nat.lt_of_lt_of_le hb h1.size) (fun e => by have := (hkb b e.symm).2; omega)]
   exact h1.cell hcb
 ·have Xc : ∀ b, (Value.slice (some ⟨g, 0, none⟩) (vs.length + 1) c).ownBlock = some b → kv.ownBlock = some b ∨ (w2.alloc (.cells #[u] 184)).heap.size ≤ b := fun b hb => by
   injection hb with hb
   have hb : g = b := hb
   subst hb
   rcases fC with h1 | h1
   ·exact .inl h1
   ·exact .inr (by omega)
  have hlo := h.lo
  have hw := h.Kl.lo
  refine ⟨hW.push (RAt.keep (dY.kept _) r hr) (by omega) Gc (fun b hb => (hkb b hb).1) hv hown hg Xc, ?_, ?_, h.lo⟩
  ·have h1 := (h.up.trans hu).trans dY
   refine ⟨hg.os.trans h1.os, hg.tape.trans h1.tape, hg.output.trans h1.output, ?_, fun b hb => ?_⟩
   ·have := h1.size; have := hg.size; simp only [World.size_setCell]; omega
   ·rw [blk_setCell_other _ _ _ _ (by omega : b ≠ B), hg.block b (Nat.lt_of_lt_of_le hb h1.size) (fun e => by have := (hkb b e.symm).2; omega)]
    exact h1.block b hb
  ·have h2 := Gh W hg
   have h3 : an (fun b => b ≠ B ∧ kv.ownBlock ≠ some b ∧ (Value.slice (some ⟨g, 0, none⟩) (vs.length + 1) c).ownBlock ≠ some b) (w2.alloc (.cells #[u] 184)) (.slice kp kl.length kc) kl := an.sub hi2 fun b hb hl => ⟨hb.1, hb.2, fun e => by
    rcases Xc b e with h5 | h5
    ·exact hb.2 h5
    ·omega⟩
   have h4 := an.keep (w' := W.setCell ⟨B, 1, none⟩ (.slice (some ⟨g, 0, none⟩) (vs.length + 1) c)) h3 fun b hb hl => (blk_setCell_other _ _ _ _ hb.1).trans (hg.block b hl fun e => hb.2.1 e.symm)
   exact an.sub h4 fun b hb _ => ⟨hb.1, hb.2.2⟩
theorem ints_at {S : Nat → Prop} {w : World} {b off n cap : Nat} {xs : List Int} (h : an S w (.slice (some ⟨b, off, none⟩) n cap) xs) {k : Nat} (hk : k < xs.length) : w.cell? ⟨b, off + k, none⟩ = some (.int .i64 (gi xs k)) := by
 obtain ⟨b', o', e, hc⟩ := bV h hk
 injection e with e
 injection e with e1 e2
 subst e1; subst e2; exact hc
def CU (w : World) (r : RT) (e : Ending) (w' : World) : Prop := Up w w' ∧ ∃ u, e = .returned u ∧ RAt (fun b => w.heap.size ≤ b) w' r u
theorem D1 {l : List Nat} {k : Nat} (h : k < l.length) : gi (e9 l) k = (l[k] : Nat) := by simp [gi, e9, h]
theorem y5 {S : Nat → Prop} {w : World} {r : RT} {u : Value} (h : RAt S w r u) : ∃ b, u = .pointer (some ⟨b, 0, none⟩) := by
 obtain ⟨b, _, _, _, e, _⟩ := h.open
 exact ⟨b, e⟩
set_option maxHeartbeats 4000000 in
theorem VG (S : Nat → Prop) (t : aJ) (ht : aK t = 0) : ∀ (d n : Nat), cI t n ≤ d → n < t.ps.length → ∀ (w : World) (v : Value), aO S w v t → Calls Tryz.prog 184 #[v, .int .i64 n] w (CU w (bu (dr t) (cI t) n)) := by
 intro d
 induction d with
 | zero => intro n hd hn; unfold cI at hd; omega
 | succ d ih =>
 intro n hd hn w v hT
 obtain ⟨_, L8, hnl, hpk, _⟩ := aP ht
 have hwf := (cS ht).wf
 obtain ⟨P, N, rfl, hP, hN⟩ := hT
 obtain ⟨pp, pc, rfl, _, _⟩ := aC.open hP
 obtain ⟨np, nc, rfl, _, _⟩ := aC.open hN
 have hP : an S w (.slice pp t.ps.length pc) t.ps := hP
 have hN : aG S w (.slice np t.ns.length nc) t.ns := hN
 have dY := Up.alloc w (.cells #[.slice pp t.ps.length pc, .slice np t.ns.length nc] 39)
 have b0 := dg w (.slice pp t.ps.length pc) (.slice np t.ns.length nc) 39
 have b1 := dy w (.slice pp t.ps.length pc) (.slice np t.ns.length nc) 39
 have hsz : (w.alloc (.cells #[.slice pp t.ps.length pc, .slice np t.ns.length nc] 39)).heap.size = w.heap.size + 1 := World.size_alloc _ _
 have zO : Hid (aO S (w.alloc (.cells #[.slice pp t.ps.length pc, .slice np t.ns.length nc] 39)) (.agg #[.slice pp t.ps.length pc, .slice np t.ns.length nc]) t) := aO.keep ⟨_, _, rfl, hP, hN⟩ (dY.kept S)
 obtain ⟨sb, so, rfl, hsc⟩ := dh (aG.keep hN (dY.kept S)) (k := n) (by rw [hnl]; exact hn)
 have hn2 : (n : Int) < (t.ns.length : Int) := by omega
 have hn0 : (0 : Int) ≤ (n : Int) := by omega
 have gN := ag b0
 have gU := ag b1
 have HU := ag dY
 have dG := ag hsz
 have HN := ag hn
 have H64 := ag L8
 have k7 : Hid (∀ c ∈ bO t.ps n, ∀ W u, aO S W u t → Calls Tryz.prog 184 #[u, .int .i64 (c : Nat)] W (CU W (bu (dr t) (cI t) c))) := fun c hc W u hu => by
  have hk := hwf.bF n hn c hc
  exact ih c (by omega) hk.1 W u hu
 have HRF : Hid (bu (dr t) (cI t) n = .node (gs t.ns n) ((bO t.ps n).map (bu (dr t) (cI t)))) := dH hwf hn
 have kZ : Hid ((bO t.ps n).length ≤ 64) := by have := ox t n; rw [gz] at this; unfold Hid; omega
 clear dY hP hN hnl hpk ih hd hn hwf
 aq Tryz.func184, Tryz.ntmps184
 aa fail
 generalize w.alloc (.cells #[.slice pp t.ps.length pc, .slice (some ⟨sb, so, none⟩) t.ns.length nc] 39) = w1 at *
 have hst := mN.start w1 (base := w.heap.size) (by rw [dG.out]; omega) (gs t.ns n)
 have RM := Up.alloc w1 (.cells #[.string (gs t.ns n), .slice none 0 0] 238)
 have hs1 : (w1.alloc (.cells #[.string (gs t.ns n), .slice none 0 0] 238)).heap.size = w1.heap.size + 1 := World.size_alloc _ _
 refine (Kf S _ _ t n (zO.out.keep (RM.kept S)) (by omega) HN.out).mono ?_
 rintro e w2 ⟨aL, kvv, rfl, hki⟩
 have aL : Up (w1.alloc (.cells #[.string (gs t.ns n), .slice none 0 0] 238)) w2 := aL
 obtain ⟨kp, kc, rfl, _, _⟩ := aC.open hki
 have hG0 : Gg w1 w.heap.size (w.heap.size + 1) (gs t.ns n) (e9 (bO t.ps n)) kp kc w2 (.slice none 0 0) (((bO t.ps n).take 0).map (bu (dr t) (cI t))) := by
  rw [dG.out] at hst hs1
  exact ⟨hst.up aL, RM.trans aL, an.sub hki fun b hb _ => ⟨by rw [hs1] at hb; omega, fun e => by cases e⟩, by rw [dG.out]; exact Nat.le_refl _⟩
 have rU := ag hG0
 clear hst RM hs1 aL hki hG0 b0 b1
 have o6 : (e9 (bO t.ps n)).length = (bO t.ps n).length := by simp [e9]
 rw [o6]
 obtain ⟨L, hL⟩ : ∃ L, L = bO t.ps n := ⟨_, rfl⟩
 rw [← hL] at kZ k7 HRF rU ⊢
 clear hL o6
 aa fail
 aV [7] (fun i wr => ∃ (k : Nat) (kv : Value), k ≤ L.length ∧ i = .int .i64 k ∧ Hid (Gg w1 w.heap.size (w.heap.size + 1) (gs t.ns n) (e9 L) kp kc wr kv ((L.take k).map (bu (dr t) (cI t))))) (fun i _ => L.length - (intOf i).toNat)
 case atStart => exact ⟨0, _, Nat.zero_le _, rfl, rU.out⟩
 case round =>
  obtain ⟨k, kv, hk, rfl, hG⟩ := bE
  obtain ⟨wo, rfl⟩ : ∃ wo : World, wo = wr := ⟨_, rfl⟩
  by_cases hlt : k < L.length
  ·have hc := hG.out.Kl.cells
   have iO : k < (e9 L).length := by simp [e9]; exact hlt
   obtain ⟨ib, io, rfl, hic⟩ := bV hG.out.ints iO
   rw [D1 hlt] at hic
   have oB : Hid (L[k] ∈ L) := List.getElem_mem hlt
   have xY : Hid ((L.take (k + 1)).map (bu (dr t) (cI t)) = (L.take k).map (bu (dr t) (cI t)) ++ [bu (dr t) (cI t) L[k]]) := by
    unfold Hid; rw [List.take_succ_eq_append_getElem hlt, List.map_append]; rfl
   have HCG : Hid (gi (e9 L) k = (L[k] : Nat)) := D1 hlt
   generalize L[k] = c at *
   have eM : Hid (∀ W, Up wo W → Calls Tryz.prog 184 #[.agg #[.slice pp t.ps.length pc, .slice (some ⟨sb, so, none⟩) t.ns.length nc], .int .i64 (c : Nat)] W (CU W (bu (dr t) (cI t) c))) := fun W hW => k7.out c oB.out W _ (zO.out.keep ((hG.out.up.trans hW).kept S))
   generalize bu (dr t) (cI t) c = r at *
   have iE := hc.2.1
   have hk2 := hc.2.2.2
   have hb0 := hG.out.up.cell gN.out
   have cB := hG.out.up.cell gU.out
   have i1 : (0 : Int) ≤ (k : Int) := by omega
   have i2 : (k : Int) < (L.length : Int) := by omega
   have i3 : (k : Int) < 64 := by have := kZ.out; omega
   have aU := ag hlt
   have kO : Hid (∀ W, Up wo W → W.cell? ⟨w.heap.size + 1, 1, none⟩ = some kv ∧ W.cell? ⟨w.heap.size, 0, none⟩ = some (.slice pp t.ps.length pc) ∧ W.cell? ⟨w.heap.size, 1, none⟩ = some (.slice (some ⟨sb, so, none⟩) t.ns.length nc) ∧ W.cell? ⟨ib, io + k, none⟩ = some (.int .i64 (c : Nat))) := fun W hW => ⟨hW.cell iE, hW.cell hb0, hW.cell cB, hW.cell hic⟩
   have zP := ag hG.out
   clear hc iO hk hlt hG
   aa fail
   refine eE (by af) 16 (fun w' => w'.cell? ⟨w.heap.size + 1, 1, none⟩ = some kv ∧ w'.cell? ⟨w.heap.size, 0, none⟩ = some (.slice pp t.ps.length pc) ∧ w'.cell? ⟨w.heap.size, 1, none⟩ = some (.slice (some ⟨sb, so, none⟩) t.ns.length nc) ∧ w'.cell? ⟨ib, io + k, none⟩ = some (.int .i64 (c : Nat))) (kO.out _ (fE wo)) (fun hS => ?_)
   simp only [List.size_toArray, List.length_cons, List.length_nil, Nat.reduceAdd, Array.replicate_succ, Array.replicate_zero, List.push_toArray, List.nil_append, List.cons_append]
   refine au.take (i := 0) (v := ?DB) rfl (by af) (fun _ _ _ h => h) (by rfl) (fun w av => ?qm) hS ?DC
   case qm =>
    (try dsimp only at av)
    aj
    try ah rfl
   try simp only [Act.put, az, aA, aB]
   refine au.take (i := 1) (v := ?DD) rfl (by af) (fun _ _ _ h => h) (by rfl) (fun w av => ?qn) hS ?DE
   case qn =>
    (try dsimp only at av)
    aj
    try ah rfl
   try simp only [Act.put, az, aA, aB]
   refine au.take (i := 2) (v := ?DF) rfl (by af) (fun _ _ _ h => h) (by rfl) (fun w av => ?qq) hS ?DG
   case qq =>
    (try dsimp only at av)
    aj
    try ah rfl
   try simp only [Act.put, az, aA, aB]
   refine au.take (i := 3) (v := ?NX) rfl (by af) (fun _ _ _ h => h) (by rfl) (fun w av => ?xH) hS ?NY
   case xH =>
    (try dsimp only at av)
    aj
    try ah rfl
   try simp only [Act.put, az, aA, aB]
   refine au.take (i := 4) (v := ?NZ) rfl (by af) (fun _ _ _ h => h) (by rfl) (fun w av => ?xI) hS ?N9
   case xI =>
    (try dsimp only at av)
    aj
    try ah rfl
   try simp only [Act.put, az, aA, aB]
   refine au.take (i := 5) (v := ?J2) rfl (by af) (fun _ _ _ h => h) (by rfl) (fun w av => ?uI) hS ?J3
   case uI =>
    (try dsimp only at av)
    aj
    try ah rfl
   try simp only [Act.put, az, aA, aB]
   refine au.take (i := 6) (v := ?Oa) rfl (by af) (fun _ _ _ h => h) (by rfl) (fun w av => ?xJ) hS ?Ob
   case xJ =>
    (try dsimp only at av)
    aj
    try ah rfl
   try simp only [Act.put, az, aA, aB]
   refine au.take (i := 7) (v := ?J4) rfl (by af) (fun _ _ _ h => h) (by rfl) (fun w av => ?uJ) hS ?J5
   case uJ =>
    (try dsimp only at av)
    aj
    try ah rfl
   try simp only [Act.put, az, aA, aB]
   refine au.take (i := 8) (v := ?T4) rfl (by af) (fun _ _ _ h => h) (by rfl) (fun w av => ?Bk) hS ?T5
   case Bk =>
    (try dsimp only at av)
    aj
    try ah rfl
   try simp only [Act.put, az, aA, aB]
   refine au.take (i := 9) (v := ?T6) rfl (by af) (fun _ _ _ h => h) (by rfl) (fun w av => ?Bl) hS ?T7
   case Bl =>
    (try dsimp only at av)
    aj
    try ah rfl
   try simp only [Act.put, az, aA, aB]
   refine au.step (i := 10) rfl (by af) (fun K' hK => ?_)
   aj
   refine (eM.out _ (fE wo)).mono ?_
   rintro e w3 ⟨cL, u, rfl, ow⟩
   have cL : Up wo.drew w3 := cL
   obtain ⟨ub, rfl⟩ := y5 ow
   have dI := ag ((fE wo).trans cL)
   obtain ⟨vs, hvl, hown, Gi, Xd, Uh⟩ := zP.out.push dI.out ow
   have sv := ag hown
   have zF := ag Gi
   have FH := ag Xd
   have Bj := ag Uh
   have Gj : Hid (vs.length ≤ 1000000) := by
    have := aU.out; have := kZ.out; rw [List.length_map, List.length_take] at hvl; unfold Hid; omega
   have jH : Hid ((w3.alloc (.cells #[.pointer (some ⟨ub, 0, none⟩)] 184)).cell? ⟨w3.heap.size, 0, none⟩ = some (.pointer (some ⟨ub, 0, none⟩))) := ig _ _ _
   clear cL ow hown Gi Xd Uh hvl
   refine hK.out _ _ (fun _ => kO.out _ dI.out) (fun hS => ?_)
   replace hS := hS ⟨11, by decide, rfl⟩
   try simp only [az, aA, aB]
   refine au.step (i := 11) rfl (by af) (fun K' hK => ?_)
   aj
   refine hK.out _ _ (fun _ => kO.out _ (dI.out.trans (Up.alloc _ _))) (fun hS => ?_)
   replace hS := hS ⟨12, by decide, rfl⟩
   try simp only [az, aA, aB]
   refine au.step (i := 12) rfl (by af) (fun K' hK => ?_)
   refine dK (by rfl) _ _ _ (by rfl) (w.heap.size + 1 + 1) 184 _ 8 Tryz.underlying236 Tryz.xX (by rfl) (by decide) (by rfl) sv.out (.pointer (some ⟨ub, 0, none⟩)) w3.heap.size (by rfl) jH.out (by rfl) Gj.out zF.out ?_
   intro g cap w4 oe hg4 xK FM
   obtain ⟨q1, q2, q3, q4⟩ := FH.out w4 hg4
   have q5 : w4.cell? ⟨ib, io + k, none⟩ = some (.int .i64 (c : Nat)) := by rw [ints_at q4 (by simp [e9]; exact aU.out), HCG.out]
   have q6 := q3 _ _ _ (by rw [dG.out]; omega) gN.out
   have q7 := q3 _ _ _ (by rw [dG.out]; omega) gU.out
   have Bm := ag (Bj.out g cap w4 oe hg4 xK)
   clear oe hg4 xK FM q3 q4
   refine hK.out _ _ (fun _ => ⟨q1, q6, q7, q5⟩) (fun hS => ?_)
   replace hS := hS ⟨15, by decide, rfl⟩
   try simp only [Act.put, az, aA, aB]
   refine au.take (i := 13) (v := ?WC) rfl (by af) (fun _ _ _ h => h) (by rfl) (fun w av => ?FK) hS ?WD
   case FK =>
    (try dsimp only at av)
    aj
    try ah rfl
   try simp only [Act.put, az, aA, aB]
   refine au.take (i := 14) (v := ?WE) rfl (by af) (fun _ _ _ h => h) (by rfl) (fun w av => ?FL) hS ?WG
   case FL =>
    (try dsimp only at av)
    aj
    try ah rfl
   try simp only [Act.put, az, aA, aB]
   refine au.step (i := 15) rfl (by af) (fun K' hK => ?_)
   aj
   refine hK.out _ _ (bh (by af)) (fun hS => ?_)
   refine au.done (by af) ?_
   aa fail
   aF
   case rel => exact ⟨k + 1, _, aU.out, by aH, by rw [xY.out]; exact Bm.out⟩
   case measure => have := aU.out; simp [intOf]; omega
  ·obtain rfl : k = L.length := by omega
   have zP := ag hG.out
   clear hG
   aa fail
   ax
   refine ⟨HU.out.trans zP.out.up, _, rfl, ?_⟩
   have h := zP.out.Kl.done
   rw [List.take_length] at h
   rw [HRF.out]; exact h
end
section
open Go.RowKit Go.Deep
def Ui (Q : ByteArray → Prop) (t : aJ) : Prop := ∀ s ∈ t.ns, Q s
theorem Ui.gs {Q : ByteArray → Prop} {t : aJ} (h : Ui Q t) (h0 : Q ByteArray.empty) (k : Nat) : Q (gs t.ns k) := by
 by_cases hk : k < t.ns.length
 ·exact h _ (by simp [YtpnmblnahjjmhaaGreat.gs, hk])
 ·have : YtpnmblnahjjmhaaGreat.gs t.ns k = ByteArray.empty := by simp [YtpnmblnahjjmhaaGreat.gs, show t.ns.length ≤ k by omega]
  rw [this]; exact h0
end
section
open Go.RowKit Go.Deep
end
end Go.Proofs.YtpnmblnahjjmhaaGreat
