/- The contract of layer 31's reference's least. Rose trees appended to a tree that is .. -/
import Derived.Test.YtpnmblnahjjmhaaGreatQ1
import Derived.Test.YtpnmblnahjjmhaaGreatQ13
import Derived.Test.YtpnmblnahjjmhaaGreatQ11
set_option maxRecDepth 100000
namespace Go.Proofs.YtpnmblnahjjmhaaGreat
section
open Go.RowKit Go.Deep
def xF (a b : ByteArray) : Bool := Op.bytesLess a.toList b.toList
def iX (a b : ByteArray) : ByteArray := if (xF a b || a.toList == b.toList) = true then a else b
mutual
def lstR : RT → ByteArray
 | .node nm [] => nm
 | .node _ (k :: ks) => lstRs (lstR k) ks
def lstRs (s : ByteArray) : List RT → ByteArray
 | [] => s
 | r :: rs => lstRs (iX s (lstR r)) rs
end
theorem DU (s : ByteArray) : ∀ (a b : List RT), lstRs s (a ++ b) = lstRs (lstRs s a) b
 | [], _ => by rw [lstRs]; rfl
 | r :: a, b => by rw [List.cons_append, lstRs, lstRs]; exact DU _ a b
theorem Mc {s : ByteArray} {rs : List RT} {j : Nat} (h : j < rs.length) : lstRs s (rs.take (j + 1)) = iX (lstRs s (rs.take j)) (lstR (gr rs j)) := by
 have hg : gr rs j = rs[j] := by simp [gr, h]
 rw [List.take_succ_eq_append_getElem h, DU, lstRs, lstRs, hg]
theorem JE {P : Program} {w : World} (ts : Array TypeId) (t : TypeId) (x y : ByteArray) : (Builtin.min_ ts t #[.string x, .string y]).run P w = .ok (.string (iX x y)) w := by
 unfold iX xF
 simp [Builtin.min_, Builtin.min2, Op.stringOp, asBool]
theorem uB {ks : List RT} {j : Nat} (h : j < ks.length) : aK (gr ks j) ≤ sizeRs ks := by
 induction ks generalizing j with
 | nil => simp at h
 | cons k ks ih =>
  rw [sizeRs]
  cases j with
  | zero => show aK k ≤ _; omega
  | succ j =>
   have := ih (j := j) (by simpa using h)
   show aK (gr ks j) ≤ _
   omega
theorem qw : ∀ ks : List RT, ks.length ≤ sizeRs ks
 | [] => Nat.le_refl _
 | k :: ks => by
  have := qw ks
  have := jw k
  rw [sizeRs, List.length_cons]; omega
set_option maxHeartbeats 2000000 in
theorem F8 (S : Nat → Prop) : ∀ (d : Nat) (r : RT), aK r ≤ d → d ≤ 1000000 → ∀ (w : World) (v : Value), RAt S w r v → Calls Tryz.prog 242 #[v] w fun e w' => e = .returned (.string (lstR r)) ∧ w = w' := by
 intro d
 induction d with
 | zero => intro r hr; have := jw r; omega
 | succ d ih =>
 intro r hr hd w v hv
 cases r with
 | node nm ks =>
  obtain ⟨b, kp, kc, vs, rfl, hS, c0, c1, hk, hs⟩ := hv.open
  simp only [RT.nm, RT.kids] at c0 c1 hk hs
  have iq := qw ks
  rw [aK] at hr
  have kr : Hid (∀ j, j < ks.length → Calls Tryz.prog 242 #[vN vs j] w fun e w' => e = .returned (.string (lstR (gr ks j))) ∧ w = w') := fun j hj => by
   have := uB hj
   exact ih _ (by omega) (by omega) w _ (RsAt.get ks hs j hj)
  have HK := aa hk
  clear ih hv hS hs hk
  cases ks with
  | nil =>
   clear hr
   go_enter Tryz.func242, Tryz.ntmps242
   go_wp2_with fail
   go_ret
   exact ⟨rfl, rfl⟩
  | cons k0 rs =>
   obtain ⟨kb, ko, rfl, hc0⟩ := pI HK.out (show 0 < (k0 :: rs).length by simp)
   have d0 : (((k0 :: rs).length : Int) == 0) = false := by simp; omega
   have hpos : (0 : Int) < ((k0 :: rs).length : Int) := by rw [List.length_cons]; omega
   have HL : Hid (lstR (.node nm (k0 :: rs)) = lstRs (lstR k0) rs) := by unfold Hid; rw [lstR]
   have H0 : Hid (Calls Tryz.prog 242 #[vN vs 0] w fun e w' => e = .returned (.string (lstR k0)) ∧ w = w') := kr.out 0 (by simp)
   have dr : Hid ((k0 :: rs).length = rs.length + 1) := List.length_cons
   have iL : Hid ((k0 :: rs).length ≤ 1000000) := by unfold Hid; omega
   rw [Nat.add_zero] at hc0
   clear hr
   generalize (k0 :: rs).length = n at *
   go_enter Tryz.func242, Tryz.ntmps242
   go_wp2_with fail
   refine H0.out.mono ?_
   rintro e w' ⟨rfl, rfl⟩
   go_wp2_with fail
   go_loop [3, 4] (fun a i => ∃ j : Nat, j ≤ rs.length ∧ i = .int .i64 (j + 1 : Nat) ∧ a = .string (lstRs (lstR k0) (rs.take j))) (fun _ i => n - (intOf i).toNat)
   case atStart => exact ⟨0, Nat.zero_le _, rfl, by rw [List.take_zero, lstRs]⟩
   case round =>
    obtain ⟨j, hj, rfl, rfl⟩ := hrel
    by_cases hlt : j < rs.length
    ·obtain ⟨kb2, ko2, e2, wT⟩ := pI HK.out (show j + 1 < n by have := dr.out; omega)
     injection e2 with e2
     injection e2 with e3 e4
     subst e3; subst e4
     have HJ : Hid (Calls Tryz.prog 242 #[vN vs (j + 1)] w fun e w' => e = .returned (.string (lstR (gr rs j))) ∧ w = w') := kr.out (j + 1) (by have := dr.out; omega)
     have HT := aa (Mc (s := lstR k0) hlt)
     have i1 : (0 : Int) ≤ ((j + 1 : Nat) : Int) := by omega
     have i2 : ((j + 1 : Nat) : Int) < (n : Int) := by have := dr.out; omega
     have i3 : ((j + 1 : Nat) : Int) < 1000000 := by have := dr.out; have := iL.out; omega
     have aM := aa hlt
     have hmin := fun ts t => JE (P := Tryz.prog) (w := w) ts t (lstRs (lstR k0) (rs.take j)) (lstR (gr rs j))
     generalize hm : j + 1 = m at *
     clear hlt hj hc0
     go_wp2_with fail
     refine HJ.out.mono ?_
     rintro e w' ⟨rfl, rfl⟩
     go_wp2_with fail
     go_round
     case rel => exact ⟨m, by have := aM.out; omega, by go_num, by rw [HT.out]⟩
     case measure => have := aM.out; have := dr.out; simp [intOf]; omega
    ·obtain rfl : j = rs.length := by omega
     have d1 : decide (((rs.length + 1 : Nat) : Int) < (n : Int)) = false := by simp; have := dr.out; omega
     have hnl : ¬ (((rs.length + 1 : Nat) : Int) < (n : Int)) := by have := dr.out; omega
     have iD := aa hnl
     go_wp2_with fail
     go_ret
     exact ⟨by rw [HL.out]; rfl, rfl⟩
end
section
def aA.app (t : aA) (r : RT) (p : Int) : aA := ⟨t.ps ++ psR r t.ps.length p, t.ns ++ cm r⟩
def aA.apps (t : aA) (rs : List RT) (own : Nat) : aA := ⟨t.ps ++ psRs rs own t.ps.length, t.ns ++ b7 rs⟩
theorem F9 : ∀ (a b : List RT) (own n : Nat), psRs (a ++ b) own n = psRs a own n ++ psRs b own (n + sizeRs a)
 | [], _, _, _ => rfl
 | r :: a, b, own, n => by rw [List.cons_append, psRs, psRs, F9 a b own (n + aK r), sizeRs, List.append_assoc, Nat.add_assoc]
theorem Ga : ∀ (a b : List RT), b7 (a ++ b) = b7 a ++ b7 b
 | [], _ => rfl
 | r :: a, b => by rw [List.cons_append, b7, b7, Ga a b, List.append_assoc]
theorem Ab (t : aA) (own : Nat) : t.apps [] own = t := by simp [aA.apps, psRs, b7]
theorem OC (t : aA) (a b : List RT) (own : Nat) : (t.apps a own).apps b own = t.apps (a ++ b) own := by
 unfold aA.apps
 rw [F9, Ga, List.append_assoc, List.append_assoc, List.length_append, kC]
theorem Ac (t : aA) (a : List RT) (r : RT) (own : Nat) : (t.apps a own).app r (own : Int) = t.apps (a ++ [r]) own := by
 rw [← OC]
 simp [aA.apps, aA.app, psRs, b7]
end
section
open Go.RowKit Go.Deep
theorem Tryz.xG : (Tryz.prog.info? 184).map (fun i => (i.zero, i.size, i.bytes)) = some (some (.pointer none), 1, 8) := by kernel_rfl
structure Gc (w1 : World) (base B : Nat) (nm : ByteArray) (kl : List Int) (kp : Option Addr) (kc : Nat) (wr : World) (kv : Value) (rs : List RT) : Prop where
 Kk : lN base B wr nm kv rs
 up : Up w1 wr
 ints : af (fun b => b ≠ B ∧ kv.ownBlock ≠ some b) wr (.slice kp kl.length kc) kl
 lo : w1.heap.size ≤ B
theorem eN (w : World) : Up w w.drew := Up.drewN w 1
theorem Gc.push {w1 : World} {base B : Nat} {nm : ByteArray} {kl : List Int} {kp : Option Addr} {kc : Nat} {wr w2 : World} {kv : Value} {rs : List RT} (h : Gc w1 base B nm kl kp kc wr kv rs) {r : RT} {u : Value} (hu : Up wr w2) (hr : RAt (fun b => wr.heap.size ≤ b) w2 r u) :
  ∃ vs : List Value, vs.length = rs.length ∧ ah (B + 1) 184 (w2.alloc (.cells #[u] 184)) kv vs ∧ B + 1 ≤ (w2.alloc (.cells #[u] 184)).heap.size ∧
   (∀ W, (w2.alloc (.cells #[u] 184)).grownBy W kv.ownBlock → W.cell? ⟨B, 1, none⟩ = some kv ∧ W.frozen? ⟨B, 1, none⟩ = false ∧ (∀ b o v, b < w1.heap.size → w1.cell? ⟨b, o, none⟩ = some v → W.cell? ⟨b, o, none⟩ = some v) ∧ af (fun b => b ≠ B ∧ kv.ownBlock ≠ some b) W (.slice kp kl.length kc) kl) ∧
   ∀ g c W, ah (B + 1) 184 W (.slice (some ⟨g, 0, none⟩) (vs.length + 1) c) (vs ++ [u]) → (w2.alloc (.cells #[u] 184)).grownBy W kv.ownBlock → (kv.ownBlock = some g ∨ g = (w2.alloc (.cells #[u] 184)).heap.size) →
    Gc w1 base B nm kl kp kc (W.setCell ⟨B, 1, none⟩ (.slice (some ⟨g, 0, none⟩) (vs.length + 1) c)) (.slice (some ⟨g, 0, none⟩) (vs.length + 1) c) (rs ++ [r]) := by
 have dx := Up.alloc w2 (.cells #[u] 184)
 have hW := (h.Kk.up hu).up dx
 have hBl := h.Kk.lt
 have hsz := hu.size
 have Kl : (w2.alloc (.cells #[u] 184)).heap.size = w2.heap.size + 1 := World.size_alloc _ _
 obtain ⟨vs, ho, hv⟩ := hW.kids
 obtain ⟨vs0, Kj, _⟩ := h.Kk.kids
 have hkb : ∀ b, kv.ownBlock = some b → b < wr.heap.size ∧ B < b := fun b hb => ⟨(ax Kj hb).2, by have := (ax Kj hb).1; omega⟩
 have hi2 : af (fun b => b ≠ B ∧ kv.ownBlock ≠ some b) (w2.alloc (.cells #[u] 184)) (.slice kp kl.length kc) kl := af.keep h.ints ((hu.trans dx).kept _)
 have Gd : ∀ W, (w2.alloc (.cells #[u] 184)).grownBy W kv.ownBlock → af (fun b => b ≠ B ∧ kv.ownBlock ≠ some b) W (.slice kp kl.length kc) kl := fun W hg =>
  af.keep hi2 fun b hb hl => hg.block b hl fun e => hb.2 e.symm
 refine ⟨vs, RsAt.len rs hv, ho, by omega, fun W hg => ?_, fun g c W hown hg eL => ?_⟩
 ·have hc := hW.cells
  have hBo : some B ≠ kv.ownBlock := fun e => by have := (hkb B e.symm).2; omega
  have hBa : B < (w2.alloc (.cells #[u] 184)).heap.size := by omega
  refine ⟨?_, ?_, fun b o v hb hcb => ?_, Gd W hg⟩
  ·rw [hg.cell_far (a := ⟨B, 1, none⟩) hBa hBo]; exact hc.2.1
  ·rw [hg.frozen_far (a := ⟨B, 1, none⟩) hBa hBo]; exact hc.2.2.2
  ·have h1 := ((h.up.trans hu).trans dx)
   have hlo := h.lo
   rw [hg.cell_far _ (Nat.lt_of_lt_of_le hb h1.size) (fun e => by have := (hkb b e.symm).2; omega)]
   exact h1.cell hcb
 ·have Xg : ∀ b, (Value.slice (some ⟨g, 0, none⟩) (vs.length + 1) c).ownBlock = some b → kv.ownBlock = some b ∨ (w2.alloc (.cells #[u] 184)).heap.size ≤ b := fun b hb => by
   injection hb with hb
   have hb : g = b := hb
   subst hb
   rcases eL with h1 | h1
   ·exact .inl h1
   ·exact .inr (by omega)
  have hlo := h.lo
  have hw := h.Kk.lo
  refine ⟨hW.push (RAt.keep (dx.kept _) r hr) (by omega) hBl (fun b hb => (hkb b hb).1) hv hown hg Xg, ?_, ?_, h.lo⟩
  ·have h1 := (h.up.trans hu).trans dx
   refine ⟨hg.os.trans h1.os, hg.tape.trans h1.tape, hg.output.trans h1.output, ?_, fun b hb => ?_⟩
   ·have := h1.size; have := hg.size; simp only [World.size_setCell]; omega
   ·rw [blk_setCell_other _ _ _ _ (by omega : b ≠ B), hg.block b (Nat.lt_of_lt_of_le hb h1.size) (fun e => by have := (hkb b e.symm).2; omega)]
    exact h1.block b hb
  ·have h2 := Gd W hg
   have h3 : af (fun b => b ≠ B ∧ kv.ownBlock ≠ some b ∧ (Value.slice (some ⟨g, 0, none⟩) (vs.length + 1) c).ownBlock ≠ some b) (w2.alloc (.cells #[u] 184)) (.slice kp kl.length kc) kl := af.sub hi2 fun b hb hl => ⟨hb.1, hb.2, fun e => by
    rcases Xg b e with h5 | h5
    ·exact hb.2 h5
    ·omega⟩
   have h4 := af.keep (w' := W.setCell ⟨B, 1, none⟩ (.slice (some ⟨g, 0, none⟩) (vs.length + 1) c)) h3 fun b hb hl => (blk_setCell_other _ _ _ _ hb.1).trans (hg.block b hl fun e => hb.2.1 e.symm)
   exact af.sub h4 fun b hb _ => ⟨hb.1, hb.2.2⟩
theorem RL {S : Nat → Prop} {w : World} {b off n cap : Nat} {xs : List Int} (h : af S w (.slice (some ⟨b, off, none⟩) n cap) xs) {k : Nat} (hk : k < xs.length) : w.cell? ⟨b, off + k, none⟩ = some (.int .i64 (gi xs k)) := by
 obtain ⟨b', o', e, hc⟩ := bw h hk
 injection e with e
 injection e with e1 e2
 subst e1; subst e2; exact hc
def CK (w : World) (r : RT) (e : Ending) (w' : World) : Prop := Up w w' ∧ ∃ u, e = .returned u ∧ RAt (fun b => w.heap.size ≤ b) w' r u
theorem DV {l : List Nat} {k : Nat} (h : k < l.length) : gi (er l) k = (l[k] : Nat) := by simp [gi, er, h]
theorem yK {S : Nat → Prop} {w : World} {r : RT} {u : Value} (h : RAt S w r u) : ∃ b, u = .pointer (some ⟨b, 0, none⟩) := by
 obtain ⟨b, _, _, _, e, _⟩ := h.open
 exact ⟨b, e⟩
set_option maxHeartbeats 4000000 in
theorem VH (S : Nat → Prop) (t : aA) (ht : aB t = 0) : ∀ (d n : Nat), bM t n ≤ d → n < t.ps.length → ∀ (w : World) (v : Value), aG S w v t → Calls Tryz.prog 184 #[v, .int .i64 n] w (CK w (aR (cF t) (bM t) n)) := by
 intro d
 induction d with
 | zero => intro n hd hn; unfold bM at hd; omega
 | succ d ih =>
 intro n hd hn w v hT
 obtain ⟨_, LZ, hnl, hpk, _⟩ := aH ht
 have hwf := (cg ht).wf
 obtain ⟨P, N, rfl, hP, hN⟩ := hT
 obtain ⟨pp, pc, rfl, _, _⟩ := av.open hP
 obtain ⟨np, nc, rfl, _, _⟩ := av.open hN
 have hP : af S w (.slice pp t.ps.length pc) t.ps := hP
 have hN : ay S w (.slice np t.ns.length nc) t.ns := hN
 have dx := Up.alloc w (.cells #[.slice pp t.ps.length pc, .slice np t.ns.length nc] 39)
 have b0 := cB w (.slice pp t.ps.length pc) (.slice np t.ns.length nc) 39
 have b1 := cI w (.slice pp t.ps.length pc) (.slice np t.ns.length nc) 39
 have hsz : (w.alloc (.cells #[.slice pp t.ps.length pc, .slice np t.ns.length nc] 39)).heap.size = w.heap.size + 1 := World.size_alloc _ _
 have zx : Hid (aG S (w.alloc (.cells #[.slice pp t.ps.length pc, .slice np t.ns.length nc] 39)) (.agg #[.slice pp t.ps.length pc, .slice np t.ns.length nc]) t) := aG.keep ⟨_, _, rfl, hP, hN⟩ (dx.kept S)
 obtain ⟨sb, so, rfl, hsc⟩ := cC (ay.keep hN (dx.kept S)) (k := n) (by rw [hnl]; exact hn)
 have hn2 : (n : Int) < (t.ns.length : Int) := by omega
 have hn0 : (0 : Int) ≤ (n : Int) := by omega
 have gm := aa b0
 have gz := aa b1
 have HU := aa dx
 have cO := aa hsz
 have HN := aa hn
 have H64 := aa LZ
 have kr : Hid (∀ c ∈ bu t.ps n, ∀ W u, aG S W u t → Calls Tryz.prog 184 #[u, .int .i64 (c : Nat)] W (CK W (aR (cF t) (bM t) c))) := fun c hc W u hu => by
  have hk := hwf.kid n hn c hc
  exact ih c (by omega) hk.1 W u hu
 have HRF : Hid (aR (cF t) (bM t) n = .node (gs t.ns n) ((bu t.ps n).map (aR (cF t) (bM t)))) := cQ hwf hn
 have kn : Hid ((bu t.ps n).length ≤ 64) := by have := nB t n; rw [fM] at this; unfold Hid; omega
 clear dx hP hN hnl hpk ih hd hn hwf
 go_enter Tryz.func184, Tryz.ntmps184
 go_wp2_with fail
 generalize w.alloc (.cells #[.slice pp t.ps.length pc, .slice (some ⟨sb, so, none⟩) t.ns.length nc] 39) = w1 at *
 have hst := lN.start w1 (base := w.heap.size) (by rw [cO.out]; omega) (gs t.ns n)
 have RM := Up.alloc w1 (.cells #[.string (gs t.ns n), .slice none 0 0] 238)
 have hs1 : (w1.alloc (.cells #[.string (gs t.ns n), .slice none 0 0] 238)).heap.size = w1.heap.size + 1 := World.size_alloc _ _
 refine (Ke S _ _ t n (zx.out.keep (RM.kept S)) (by omega) HN.out).mono ?_
 rintro e w2 ⟨aC, kvv, rfl, hki⟩
 have aC : Up (w1.alloc (.cells #[.string (gs t.ns n), .slice none 0 0] 238)) w2 := aC
 obtain ⟨kp, kc, rfl, _, _⟩ := av.open hki
 have hG0 : Gc w1 w.heap.size (w.heap.size + 1) (gs t.ns n) (er (bu t.ps n)) kp kc w2 (.slice none 0 0) (((bu t.ps n).take 0).map (aR (cF t) (bM t))) := by
  rw [cO.out] at hst hs1
  exact ⟨hst.up aC, RM.trans aC, af.sub hki fun b hb _ => ⟨by rw [hs1] at hb; omega, fun e => by cases e⟩, by rw [cO.out]; exact Nat.le_refl _⟩
 have qY := aa hG0
 clear hst RM hs1 aC hki hG0 b0 b1
 have oo : (er (bu t.ps n)).length = (bu t.ps n).length := by simp [er]
 rw [oo]
 obtain ⟨L, hL⟩ : ∃ L, L = bu t.ps n := ⟨_, rfl⟩
 rw [← hL] at kn kr HRF qY ⊢
 clear hL oo
 go_wp2_with fail
 go_loopw [7] (fun i wr => ∃ (k : Nat) (kv : Value), k ≤ L.length ∧ i = .int .i64 k ∧ Hid (Gc w1 w.heap.size (w.heap.size + 1) (gs t.ns n) (er L) kp kc wr kv ((L.take k).map (aR (cF t) (bM t))))) (fun i _ => L.length - (intOf i).toNat)
 case atStart => exact ⟨0, _, Nat.zero_le _, rfl, qY.out⟩
 case round =>
  obtain ⟨k, kv, hk, rfl, hG⟩ := hrel
  obtain ⟨wo, rfl⟩ : ∃ wo : World, wo = wr := ⟨_, rfl⟩
  by_cases hlt : k < L.length
  ·have hc := hG.out.Kk.cells
   have iq : k < (er L).length := by simp [er]; exact hlt
   obtain ⟨ib, io, rfl, hic⟩ := bw hG.out.ints iq
   rw [DV hlt] at hic
   have nG : Hid (L[k] ∈ L) := List.getElem_mem hlt
   have xH : Hid ((L.take (k + 1)).map (aR (cF t) (bM t)) = (L.take k).map (aR (cF t) (bM t)) ++ [aR (cF t) (bM t) L[k]]) := by
    unfold Hid; rw [List.take_succ_eq_append_getElem hlt, List.map_append]; rfl
   have HCG : Hid (gi (er L) k = (L[k] : Nat)) := DV hlt
   generalize L[k] = c at *
   have dO : Hid (∀ W, Up wo W → Calls Tryz.prog 184 #[.agg #[.slice pp t.ps.length pc, .slice (some ⟨sb, so, none⟩) t.ns.length nc], .int .i64 (c : Nat)] W (CK W (aR (cF t) (bM t) c))) := fun W hW => kr.out c nG.out W _ (zx.out.keep ((hG.out.up.trans hW).kept S))
   generalize aR (cF t) (bM t) c = r at *
   have gT := hc.2.1
   have hk2 := hc.2.2.2
   have hb0 := hG.out.up.cell gm.out
   have hb1 := hG.out.up.cell gz.out
   have i1 : (0 : Int) ≤ (k : Int) := by omega
   have i2 : (k : Int) < (L.length : Int) := by omega
   have i3 : (k : Int) < 64 := by have := kn.out; omega
   have aM := aa hlt
   have jU : Hid (∀ W, Up wo W → W.cell? ⟨w.heap.size + 1, 1, none⟩ = some kv ∧ W.cell? ⟨w.heap.size, 0, none⟩ = some (.slice pp t.ps.length pc) ∧ W.cell? ⟨w.heap.size, 1, none⟩ = some (.slice (some ⟨sb, so, none⟩) t.ns.length nc) ∧ W.cell? ⟨ib, io + k, none⟩ = some (.int .i64 (c : Nat))) := fun W hW => ⟨hW.cell gT, hW.cell hb0, hW.cell hb1, hW.cell hic⟩
   have zy := aa hG.out
   clear hc iq hk hlt hG
   go_wp2_with fail
   refine dK (by kernel_rfl) 16 (fun w' => w'.cell? ⟨w.heap.size + 1, 1, none⟩ = some kv ∧ w'.cell? ⟨w.heap.size, 0, none⟩ = some (.slice pp t.ps.length pc) ∧ w'.cell? ⟨w.heap.size, 1, none⟩ = some (.slice (some ⟨sb, so, none⟩) t.ns.length nc) ∧ w'.cell? ⟨ib, io + k, none⟩ = some (.int .i64 (c : Nat))) (jU.out _ (eN wo)) (fun hS => ?_)
   simp only [List.size_toArray, List.length_cons, List.length_nil, Nat.reduceAdd, Array.replicate_succ, Array.replicate_zero, List.push_toArray, List.nil_append, List.cons_append]
   refine ag.take (i := 0) (v := ?Dr) rfl (by kernel_rfl) (fun _ _ _ h => h) (by rfl) (fun w hSw => ?pF) hS ?Ds
   case pF =>
    (try dsimp only at hSw)
    go_simp
    try with_reducible rfl
   try simp only [Act.put, aj, aq, au]
   refine ag.take (i := 1) (v := ?Dt) rfl (by kernel_rfl) (fun _ _ _ h => h) (by rfl) (fun w hSw => ?pG) hS ?Du
   case pG =>
    (try dsimp only at hSw)
    go_simp
    try with_reducible rfl
   try simp only [Act.put, aj, aq, au]
   refine ag.take (i := 2) (v := ?Dv) rfl (by kernel_rfl) (fun _ _ _ h => h) (by rfl) (fun w hSw => ?pH) hS ?Dw
   case pH =>
    (try dsimp only at hSw)
    go_simp
    try with_reducible rfl
   try simp only [Act.put, aj, aq, au]
   refine ag.take (i := 3) (v := ?NU) rfl (by kernel_rfl) (fun _ _ _ h => h) (by rfl) (fun w hSw => ?xe) hS ?NV
   case xe =>
    (try dsimp only at hSw)
    go_simp
    try with_reducible rfl
   try simp only [Act.put, aj, aq, au]
   refine ag.take (i := 4) (v := ?NW) rfl (by kernel_rfl) (fun _ _ _ h => h) (by rfl) (fun w hSw => ?xg) hS ?NX
   case xg =>
    (try dsimp only at hSw)
    go_simp
    try with_reducible rfl
   try simp only [Act.put, aj, aq, au]
   refine ag.take (i := 5) (v := ?J1) rfl (by kernel_rfl) (fun _ _ _ h => h) (by rfl) (fun w hSw => ?uh) hS ?J2
   case uh =>
    (try dsimp only at hSw)
    go_simp
    try with_reducible rfl
   try simp only [Act.put, aj, aq, au]
   refine ag.take (i := 6) (v := ?NY) rfl (by kernel_rfl) (fun _ _ _ h => h) (by rfl) (fun w hSw => ?xh) hS ?NZ
   case xh =>
    (try dsimp only at hSw)
    go_simp
    try with_reducible rfl
   try simp only [Act.put, aj, aq, au]
   refine ag.take (i := 7) (v := ?J3) rfl (by kernel_rfl) (fun _ _ _ h => h) (by rfl) (fun w hSw => ?uj) hS ?J4
   case uj =>
    (try dsimp only at hSw)
    go_simp
    try with_reducible rfl
   try simp only [Act.put, aj, aq, au]
   refine ag.take (i := 8) (v := ?T8) rfl (by kernel_rfl) (fun _ _ _ h => h) (by rfl) (fun w hSw => ?A5) hS ?T9
   case A5 =>
    (try dsimp only at hSw)
    go_simp
    try with_reducible rfl
   try simp only [Act.put, aj, aq, au]
   refine ag.take (i := 9) (v := ?Ua) rfl (by kernel_rfl) (fun _ _ _ h => h) (by rfl) (fun w hSw => ?A6) hS ?Ub
   case A6 =>
    (try dsimp only at hSw)
    go_simp
    try with_reducible rfl
   try simp only [Act.put, aj, aq, au]
   refine ag.step (i := 10) rfl (by kernel_rfl) (fun K' hK => ?_)
   go_simp
   refine (dO.out _ (eN wo)).mono ?_
   rintro e w3 ⟨bR, u, rfl, hr3⟩
   have bR : Up wo.drew w3 := bR
   obtain ⟨ub, rfl⟩ := yK hr3
   have cR := aa ((eN wo).trans bR)
   obtain ⟨vs, hvl, hown, Ge, Xh, Uk⟩ := zy.out.push cR.out hr3
   have HOW := aa hown
   have zl := aa Ge
   have FB := aa Xh
   have A4 := aa Uk
   have Gf : Hid (vs.length ≤ 1000000) := by
    have := aM.out; have := kn.out; rw [List.length_map, List.length_take] at hvl; unfold Hid; omega
   have jd : Hid ((w3.alloc (.cells #[.pointer (some ⟨ub, 0, none⟩)] 184)).cell? ⟨w3.heap.size, 0, none⟩ = some (.pointer (some ⟨ub, 0, none⟩))) := gG _ _ _
   clear bR hr3 hown Ge Xh Uk hvl
   refine hK.out _ _ (fun _ => jU.out _ cR.out) (fun hS => ?_)
   replace hS := hS ⟨11, by decide, rfl⟩
   try simp only [aj, aq, au]
   refine ag.step (i := 11) rfl (by kernel_rfl) (fun K' hK => ?_)
   go_simp
   refine hK.out _ _ (fun _ => jU.out _ (cR.out.trans (Up.alloc _ _))) (fun hS => ?_)
   replace hS := hS ⟨12, by decide, rfl⟩
   try simp only [aj, aq, au]
   refine ag.step (i := 12) rfl (by kernel_rfl) (fun K' hK => ?_)
   refine cT (by rfl) _ _ _ (by rfl) (w.heap.size + 1 + 1) 184 _ 8 Tryz.underlying236 Tryz.xG (by rfl) (by decide) (by rfl) HOW.out (.pointer (some ⟨ub, 0, none⟩)) w3.heap.size (by rfl) jd.out (by rfl) Gf.out zl.out ?_
   intro g cap w4 nt hg4 xk FI
   obtain ⟨q1, q2, q3, q4⟩ := FB.out w4 hg4
   have q5 : w4.cell? ⟨ib, io + k, none⟩ = some (.int .i64 (c : Nat)) := by rw [RL q4 (by simp [er]; exact aM.out), HCG.out]
   have q6 := q3 _ _ _ (by rw [cO.out]; omega) gm.out
   have q7 := q3 _ _ _ (by rw [cO.out]; omega) gz.out
   have A7 := aa (A4.out g cap w4 nt hg4 xk)
   clear nt hg4 xk FI q3 q4
   refine hK.out _ _ (fun _ => ⟨q1, q6, q7, q5⟩) (fun hS => ?_)
   replace hS := hS ⟨15, by decide, rfl⟩
   try simp only [Act.put, aj, aq, au]
   refine ag.take (i := 13) (v := ?WG) rfl (by kernel_rfl) (fun _ _ _ h => h) (by rfl) (fun w hSw => ?FE) hS ?WH
   case FE =>
    (try dsimp only at hSw)
    go_simp
    try with_reducible rfl
   try simp only [Act.put, aj, aq, au]
   refine ag.take (i := 14) (v := ?WI) rfl (by kernel_rfl) (fun _ _ _ h => h) (by rfl) (fun w hSw => ?FH) hS ?WJ
   case FH =>
    (try dsimp only at hSw)
    go_simp
    try with_reducible rfl
   try simp only [Act.put, aj, aq, au]
   refine ag.step (i := 15) rfl (by kernel_rfl) (fun K' hK => ?_)
   go_simp
   refine hK.out _ _ (aP (by kernel_rfl)) (fun hS => ?_)
   refine ag.done (by kernel_rfl) ?_
   go_wp2_with fail
   go_roundw
   case rel => exact ⟨k + 1, _, aM.out, by go_num, by rw [xH.out]; exact A7.out⟩
   case measure => have := aM.out; simp [intOf]; omega
  ·obtain rfl : k = L.length := by omega
   have zy := aa hG.out
   clear hG
   go_wp2_with fail
   go_ret
   refine ⟨HU.out.trans zy.out.up, _, rfl, ?_⟩
   have h := zy.out.Kk.done
   rw [List.take_length] at h
   rw [HRF.out]; exact h
end
section
open Go.RowKit Go.Deep
def Ul (Q : ByteArray → Prop) (t : aA) : Prop := ∀ s ∈ t.ns, Q s
theorem Ul.gs {Q : ByteArray → Prop} {t : aA} (h : Ul Q t) (h0 : Q ByteArray.empty) (k : Nat) : Q (gs t.ns k) := by
 by_cases hk : k < t.ns.length
 ·exact h _ (by simp [YtpnmblnahjjmhaaGreat.gs, hk])
 ·have : YtpnmblnahjjmhaaGreat.gs t.ns k = ByteArray.empty := by simp [YtpnmblnahjjmhaaGreat.gs, show t.ns.length ≤ k by omega]
  rw [this]; exact h0
end
section
open Go.RowKit Go.Deep
end
end Go.Proofs.YtpnmblnahjjmhaaGreat
