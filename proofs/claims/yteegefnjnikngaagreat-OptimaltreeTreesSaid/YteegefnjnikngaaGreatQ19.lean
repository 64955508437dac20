/- Rose trees of the reference's nodes, as they lie in memory; a node whose list of children .. -/
import Derived.Test.YteegefnjnikngaaGreatQ1
import Derived.Test.YteegefnjnikngaaGreatQ18
import Derived.Deep.CutRange
import Derived.Test.YteegefnjnikngaaGreatQ5
import Derived.Test.YteegefnjnikngaaGreatQ6
set_option maxRecDepth 100000
namespace Go.Proofs.YteegefnjnikngaaGreat
section
open Go.RowKit Go.Deep
def vN (vs : List Value) (k : Nat) : Value := vs.getD k undef
mutual
def RAt (S : Nat → Prop) (w : World) : RT → Value → Prop
 | .node nm ks, v => ∃ b kv vs, v = .pointer (some ⟨b, 0, none⟩) ∧ S b ∧ w.heap[b]? = some (.cells #[.string nm, kv] 261 (0, 0)) ∧ aA S w kv ks.length (vN vs) ∧ RsAt S w ks vs
def RsAt (S : Nat → Prop) (w : World) : List RT → List Value → Prop
 | [], vs => vs = []
 | r :: rs, vs => ∃ u us, vs = u :: us ∧ RAt S w r u ∧ RsAt S w rs us
end
mutual
theorem RAt.keep {S : Nat → Prop} {w w' : World} (k : Kept S w w') : ∀ (r : RT) {v : Value}, RAt S w r v → RAt S w' r v
 | .node nm ks, v, h => by
  unfold RAt at h ⊢
  obtain ⟨b, kv, vs, rfl, hS, hb, hk, hs⟩ := h
  exact ⟨b, kv, vs, rfl, hS, (k b hS (Array.getElem?_eq_some_iff.1 hb).1).trans hb, hk.keep k, RsAt.keep k ks hs⟩
theorem RsAt.keep {S : Nat → Prop} {w w' : World} (k : Kept S w w') : ∀ (rs : List RT) {vs : List Value}, RsAt S w rs vs → RsAt S w' rs vs
 | [], _, h => by unfold RsAt at h ⊢; exact h
 | r :: rs, vs, h => by
  unfold RsAt at h ⊢
  obtain ⟨u, us, rfl, h1, h2⟩ := h
  exact ⟨u, us, rfl, RAt.keep k r h1, RsAt.keep k rs h2⟩
end
mutual
theorem RAt.sub {S T : Nat → Prop} {w : World} (k : ∀ b, S b → b < w.heap.size → T b) : ∀ (r : RT) {v : Value}, RAt S w r v → RAt T w r v
 | .node nm ks, v, h => by
  unfold RAt at h ⊢
  obtain ⟨b, kv, vs, rfl, hS, hb, hk, hs⟩ := h
  exact ⟨b, kv, vs, rfl, k b hS (Array.getElem?_eq_some_iff.1 hb).1, hb, hk.sub k, RsAt.sub k ks hs⟩
theorem RsAt.sub {S T : Nat → Prop} {w : World} (k : ∀ b, S b → b < w.heap.size → T b) : ∀ (rs : List RT) {vs : List Value}, RsAt S w rs vs → RsAt T w rs vs
 | [], _, h => by unfold RsAt at h ⊢; exact h
 | r :: rs, vs, h => by
  unfold RsAt at h ⊢
  obtain ⟨u, us, rfl, h1, h2⟩ := h
  exact ⟨u, us, rfl, RAt.sub k r h1, RsAt.sub k rs h2⟩
end
theorem RsAt.len {S : Nat → Prop} {w : World} : ∀ (rs : List RT) {vs : List Value}, RsAt S w rs vs → vs.length = rs.length
 | [], _, h => by unfold RsAt at h; subst h; rfl
 | r :: rs, vs, h => by
  unfold RsAt at h
  obtain ⟨u, us, rfl, _, h2⟩ := h
  rw [List.length_cons, List.length_cons, RsAt.len rs h2]
def gr (rs : List RT) (k : Nat) : RT := rs.getD k (.node ByteArray.empty [])
theorem RsAt.get {S : Nat → Prop} {w : World} : ∀ (rs : List RT) {vs : List Value}, RsAt S w rs vs → ∀ k, k < rs.length → RAt S w (gr rs k) (vN vs k)
 | [], _, _, k, hk => absurd hk (Nat.not_lt_zero _)
 | r :: rs, vs, h, k, hk => by
  unfold RsAt at h
  obtain ⟨u, us, rfl, h1, h2⟩ := h
  cases k with
  | zero => exact h1
  | succ k => exact RsAt.get rs h2 k (by simpa using hk)
theorem RsAt.app {S : Nat → Prop} {w : World} {r : RT} {u : Value} (hr : RAt S w r u) : ∀ (rs : List RT) {vs : List Value}, RsAt S w rs vs → RsAt S w (rs ++ [r]) (vs ++ [u])
 | [], vs, h => by
  unfold RsAt at h; subst h
  show RsAt S w [r] [u]
  unfold RsAt
  exact ⟨u, [], rfl, hr, by unfold RsAt; rfl⟩
 | q :: rs, vs, h => by
  unfold RsAt at h
  obtain ⟨x, us, rfl, h1, h2⟩ := h
  show RsAt S w (q :: (rs ++ [r])) (x :: (us ++ [u]))
  unfold RsAt
  exact ⟨x, us ++ [u], rfl, h1, RsAt.app hr rs h2⟩
theorem RAt.open {S : Nat → Prop} {w : World} {r : RT} {v : Value} (h : RAt S w r v) : ∃ b kp kc vs, v = .pointer (some ⟨b, 0, none⟩) ∧ S b ∧ w.cell? ⟨b, 0, none⟩ = some (.string r.nm) ∧ w.cell? ⟨b, 1, none⟩ = some (.slice kp r.kids.length kc) ∧ aA S w (.slice kp r.kids.length kc) r.kids.length (vN vs) ∧ RsAt S w r.kids vs := by
 cases r with
 | node nm ks =>
  unfold RAt at h
  obtain ⟨b, kv, vs, rfl, hS, hb, hk, hs⟩ := h
  obtain ⟨kp, kc, rfl, _, _⟩ := aA.open hk
  exact ⟨b, kp, kc, vs, rfl, hS, by simp [World.cell?, hb, RT.nm], by simp [World.cell?, hb, RT.kids], hk, hs⟩
theorem lG {p : Option Addr} {n cap : Nat} {S : Nat → Prop} {w : World} {vs : List Value} (h : aA S w (.slice p n cap) n (vN vs)) {k : Nat} (hk : k < n) : ∃ b off, p = some ⟨b, off, none⟩ ∧ w.cell? ⟨b, off + k, none⟩ = some (vN vs k) := by
 obtain ⟨q, c, e, _, H⟩ := aA.open h
 injection e with e1
 subst e1
 exact H k hk
structure jb (base B : Nat) (w : World) (nm : ByteArray) (kv : Value) (rs : List RT) : Prop where
 node : w.heap[B]? = some (.cells #[.string nm, kv] 261 (0, 0))
 lo : base ≤ B
 kids : ∃ vs, az (B + 1) 214 w kv vs ∧ RsAt (fun b => base ≤ b ∧ b ≠ B ∧ kv.ownBlock ≠ some b) w rs vs
theorem jb.lt {base B : Nat} {w : World} {nm : ByteArray} {kv : Value} {rs : List RT} (h : jb base B w nm kv rs) : B < w.heap.size := (Array.getElem?_eq_some_iff.1 h.node).1
theorem jb.cells {base B : Nat} {w : World} {nm : ByteArray} {kv : Value} {rs : List RT} (h : jb base B w nm kv rs) : w.cell? ⟨B, 0, none⟩ = some (.string nm) ∧ w.cell? ⟨B, 1, none⟩ = some kv ∧ w.frozen? ⟨B, 0, none⟩ = false ∧ w.frozen? ⟨B, 1, none⟩ = false := by
 refine ⟨?_, ?_, ?_, ?_⟩ <;> simp [World.cell?, World.frozen?, h.node]
theorem jb.start (w : World) {base : Nat} (hb : base ≤ w.heap.size) (nm : ByteArray) : jb base w.heap.size (w.alloc (.cells #[.string nm, .slice none 0 0] 261)) nm (.slice none 0 0) [] :=
 ⟨World.alloc_heap_new _ _, hb, [], az.nil _ _ _, by unfold RsAt; rfl⟩
theorem jb.up {base B : Nat} {w w' : World} {nm : ByteArray} {kv : Value} {rs : List RT} (h : jb base B w nm kv rs) (hu : Up w w') : jb base B w' nm kv rs := by
 obtain ⟨vs, ho, hr⟩ := h.kids
 exact ⟨(Below.block hu B h.lt).trans h.node, h.lo, vs, ho.kept fun b _ hb => Below.block hu b hb, RsAt.keep (hu.kept _) rs hr⟩
theorem jb.done {base B : Nat} {w : World} {nm : ByteArray} {kv : Value} {rs : List RT} (h : jb base B w nm kv rs) : RAt (fun b => base ≤ b) w (.node nm rs) (.pointer (some ⟨B, 0, none⟩)) := by
 obtain ⟨vs, ho, hr⟩ := h.kids
 have hlen := RsAt.len rs hr
 unfold RAt
 have h1 := ho.xk
 rw [hlen] at h1
 exact ⟨B, kv, vs, rfl, h.lo, h.node, h1.sub fun b hb _ => by have := h.lo; omega, RsAt.sub (fun b hb _ => hb.1) rs hr⟩
theorem jb.push {base B : Nat} {w W : World} {nm : ByteArray} {kv kv' : Value} {rs : List RT} {r : RT} {u : Value} {lim : Nat} (h : jb base B w nm kv rs) (hr : RAt (fun b => lim ≤ b) w r u) (gF : base ≤ lim) (hl2 : B < lim) (A9 : ∀ b, kv.ownBlock = some b → b < lim)
  {vs : List Value} (hv : RsAt (fun b => base ≤ b ∧ b ≠ B ∧ kv.ownBlock ≠ some b) w rs vs) (ho : az (B + 1) 214 W kv' (vs ++ [u])) (hg : w.grownBy W kv.ownBlock) (dw : ∀ b, kv'.ownBlock = some b → kv.ownBlock = some b ∨ w.heap.size ≤ b) :
  jb base B (W.setCell ⟨B, 1, none⟩ kv') nm kv' (rs ++ [r]) := by
 have hBl := h.lt
 have Zf : kv.ownBlock ≠ some B := fun e => by
  obtain ⟨Tw, wm, _⟩ := h.kids
  have := (aD wm e).1; omega
 have hBk' : kv'.ownBlock ≠ some B := fun e => by
  rcases dw B e with h1 | h1
  ·exact Zf h1
  ·omega
 have b8 : ∀ b, b ≠ B → (W.setCell ⟨B, 1, none⟩ kv').heap[b]? = W.heap[b]? := fun b hb => blk_setCell_other _ _ _ _ hb
 have hB : W.heap[B]? = w.heap[B]? := hg.block B hBl (fun e => Zf e.symm)
 have hkeep : ∀ b, b ≠ B → kv.ownBlock ≠ some b → b < w.heap.size → (W.setCell ⟨B, 1, none⟩ kv').heap[b]? = w.heap[b]? := fun b h1 h2 h3 => (b8 b h1).trans (hg.block b h3 fun e => h2 e.symm)
 refine ⟨?_, h.lo, vs ++ [u], ho.eV fun b hb => b8 b (fun e => hBk' (by rw [hb, e])), ?_⟩
 ·have hn := hB.trans h.node
  simp [World.setCell, Array.getElem?_modify, hn]
 ·have k1 : Kept (fun b => base ≤ b ∧ b ≠ B ∧ kv.ownBlock ≠ some b) w (W.setCell ⟨B, 1, none⟩ kv') := fun b hb hl => hkeep b hb.2.1 hb.2.2 hl
  have k2 : Kept (fun b => lim ≤ b) w (W.setCell ⟨B, 1, none⟩ kv') := fun b hb hl => hkeep b (by have : lim ≤ b := hb; omega) (fun e => by have := A9 b e; have : lim ≤ b := hb; omega) hl
  have hsz : (W.setCell ⟨B, 1, none⟩ kv').heap.size = W.heap.size := by simp [World.size_setCell]
  have hold : ∀ b, b < w.heap.size → kv.ownBlock ≠ some b → kv'.ownBlock ≠ some b := fun b h1 h2 e => by
   rcases dw b e with h3 | h3
   ·exact h2 h3
   ·omega
  have h1 : RsAt (fun b => base ≤ b ∧ b ≠ B ∧ kv'.ownBlock ≠ some b) w rs vs := RsAt.sub (fun b hb hl => ⟨hb.1, hb.2.1, hold b hl hb.2.2⟩) rs hv
  have h2 : RAt (fun b => base ≤ b ∧ b ≠ B ∧ kv'.ownBlock ≠ some b) w r u := RAt.sub (fun b hb hl => ⟨by have : lim ≤ b := hb; omega, by have : lim ≤ b := hb; omega, hold b hl fun e => by have := A9 b e; have : lim ≤ b := hb; omega⟩) r hr
  have k3 : Kept (fun b => base ≤ b ∧ b ≠ B ∧ kv'.ownBlock ≠ some b ∧ kv.ownBlock ≠ some b) w (W.setCell ⟨B, 1, none⟩ kv') := fun b hb hl => hkeep b hb.2.1 hb.2.2.2 hl
  have h1' : RsAt (fun b => base ≤ b ∧ b ≠ B ∧ kv'.ownBlock ≠ some b ∧ kv.ownBlock ≠ some b) w rs vs := RsAt.sub (fun b hb hl => ⟨hb.1, hb.2.1, hold b hl hb.2.2, hb.2.2⟩) rs hv
  have Aq : RAt (fun b => base ≤ b ∧ b ≠ B ∧ kv'.ownBlock ≠ some b ∧ kv.ownBlock ≠ some b) w r u := RAt.sub (fun b hb hl => ⟨by have : lim ≤ b := hb; omega, by have : lim ≤ b := hb; omega, hold b hl fun e => by have := A9 b e; have : lim ≤ b := hb; omega, fun e => by have := A9 b e; have : lim ≤ b := hb; omega⟩) r hr
  exact RsAt.sub (fun b hb _ => ⟨hb.1, hb.2.1, hb.2.2.1⟩) _ (RsAt.app (RAt.keep k3 r Aq) rs (RsAt.keep k3 rs h1'))
end
section
open Go.RowKit Go.Deep
end
section
open Go.RowKit Go.Deep
end
section
open Go.RowKit Go.Deep
end
section
open Go.RowKit Go.Deep
def uH (a b : ByteArray) : Bool := Op.bytesLess a.toList b.toList
def gz (a b : ByteArray) : ByteArray := if (uH a b || a.toList == b.toList) = true then a else b
mutual
def lstR : RT → ByteArray
 | .node nm [] => nm
 | .node _ (k :: ks) => lstRs (lstR k) ks
def lstRs (s : ByteArray) : List RT → ByteArray
 | [] => s
 | r :: rs => lstRs (gz s (lstR r)) rs
end
theorem Ba (s : ByteArray) : ∀ (a b : List RT), lstRs s (a ++ b) = lstRs (lstRs s a) b
 | [], _ => by rw [lstRs]; rfl
 | r :: a, b => by rw [List.cons_append, lstRs, lstRs]; exact Ba _ a b
theorem Iz {s : ByteArray} {rs : List RT} {j : Nat} (h : j < rs.length) : lstRs s (rs.take (j + 1)) = gz (lstRs s (rs.take j)) (lstR (gr rs j)) := by
 have hg : gr rs j = rs[j] := by simp [gr, h]
 rw [List.take_succ_eq_append_getElem h, Ba, lstRs, lstRs, hg]
theorem FM {P : Program} {w : World} (ts : Array TypeId) (t : TypeId) (x y : ByteArray) : (Builtin.min_ ts t #[.string x, .string y]).run P w = .ok (.string (gz x y)) w := by
 unfold gz uH
 simp [Builtin.min_, Builtin.min2, Op.stringOp, asBool]
theorem od {ks : List RT} {j : Nat} (h : j < ks.length) : aG (gr ks j) ≤ sizeRs ks := by
 induction ks generalizing j with
 | nil => simp at h
 | cons k ks ih =>
  rw [sizeRs]
  cases j with
  | zero => show aG k ≤ _; omega
  | succ j =>
   have := ih (j := j) (by simpa using h)
   show aG (gr ks j) ≤ _
   omega
theorem lH : ∀ ks : List RT, ks.length ≤ sizeRs ks
 | [] => Nat.le_refl _
 | k :: ks => by
  have := lH ks
  have := jl k
  rw [sizeRs, List.length_cons]; omega
set_option maxHeartbeats 2000000 in
theorem DI (S : Nat → Prop) : ∀ (d : Nat) (r : RT), aG r ≤ d → d ≤ 1000000 → ∀ (w : World) (v : Value), RAt S w r v → Calls Tryz.prog 261 #[v] w fun e w' => e = .returned (.string (lstR r)) ∧ w = w' := by
 intro d
 induction d with
 | zero => intro r hr; have := jl r; omega
 | succ d ih =>
 intro r hr hd w v hv
 cases r with
 | node nm ks =>
  obtain ⟨b, kp, kc, vs, rfl, hS, c0, c1, hk, hs⟩ := hv.open
  simp only [RT.nm, RT.kids] at c0 c1 hk hs
  have eF := lH ks
  rw [aG] at hr
  have ir : Hid (∀ j, j < ks.length → Calls Tryz.prog 261 #[vN vs j] w fun e w' => e = .returned (.string (lstR (gr ks j))) ∧ w = w') := fun j hj => by
   have := od hj
   exact ih _ (by omega) (by omega) w _ (RsAt.get ks hs j hj)
  have HK := aa hk
  clear ih hv hS hs hk
  cases ks with
  | nil =>
   clear hr
   go_enter Tryz.func261, Tryz.ntmps261
   go_wp2_with fail
   go_ret
   exact ⟨rfl, rfl⟩
  | cons k0 rs =>
   obtain ⟨kb, ko, rfl, hc0⟩ := lG HK.out (show 0 < (k0 :: rs).length by simp)
   have d0 : (((k0 :: rs).length : Int) == 0) = false := by simp; omega
   have hpos : (0 : Int) < ((k0 :: rs).length : Int) := by rw [List.length_cons]; omega
   have HL : Hid (lstR (.node nm (k0 :: rs)) = lstRs (lstR k0) rs) := by unfold Hid; rw [lstR]
   have H0 : Hid (Calls Tryz.prog 261 #[vN vs 0] w fun e w' => e = .returned (.string (lstR k0)) ∧ w = w') := ir.out 0 (by simp)
   have dN : Hid ((k0 :: rs).length = rs.length + 1) := List.length_cons
   have iJ : Hid ((k0 :: rs).length ≤ 1000000) := by unfold Hid; omega
   rw [Nat.add_zero] at hc0
   clear hr
   generalize (k0 :: rs).length = n at *
   go_enter Tryz.func261, Tryz.ntmps261
   go_wp2_with fail
   refine H0.out.mono ?_
   rintro e w' ⟨rfl, rfl⟩
   go_wp2_with fail
   go_loop [3, 4] (fun a i => ∃ j : Nat, j ≤ rs.length ∧ i = .int .i64 (j + 1 : Nat) ∧ a = .string (lstRs (lstR k0) (rs.take j))) (fun _ i => n - (intOf i).toNat)
   case atStart => exact ⟨0, Nat.zero_le _, rfl, by rw [List.take_zero, lstRs]⟩
   case round =>
    obtain ⟨j, hj, rfl, rfl⟩ := hrel
    by_cases hlt : j < rs.length
    ·obtain ⟨kb2, ko2, e2, tj⟩ := lG HK.out (show j + 1 < n by have := dN.out; omega)
     injection e2 with e2
     injection e2 with e3 e4
     subst e3; subst e4
     have HJ : Hid (Calls Tryz.prog 261 #[vN vs (j + 1)] w fun e w' => e = .returned (.string (lstR (gr rs j))) ∧ w = w') := ir.out (j + 1) (by have := dN.out; omega)
     have HT := aa (Iz (s := lstR k0) hlt)
     have i1 : (0 : Int) ≤ ((j + 1 : Nat) : Int) := by omega
     have i2 : ((j + 1 : Nat) : Int) < (n : Int) := by have := dN.out; omega
     have i3 : ((j + 1 : Nat) : Int) < 1000000 := by have := dN.out; have := iJ.out; omega
     have aQ := aa hlt
     have hmin := fun ts t => FM (P := Tryz.prog) (w := w) ts t (lstRs (lstR k0) (rs.take j)) (lstR (gr rs j))
     generalize hm : j + 1 = m at *
     clear hlt hj hc0
     go_wp2_with fail
     refine HJ.out.mono ?_
     rintro e w' ⟨rfl, rfl⟩
     go_wp2_with fail
     go_round
     case rel => exact ⟨m, by have := aQ.out; omega, by go_num, by rw [HT.out]⟩
     case measure => have := aQ.out; have := dN.out; simp [intOf]; omega
    ·obtain rfl : j = rs.length := by omega
     have d1 : decide (((rs.length + 1 : Nat) : Int) < (n : Int)) = false := by simp; have := dN.out; omega
     have hnl : ¬ (((rs.length + 1 : Nat) : Int) < (n : Int)) := by have := dN.out; omega
     have dW := aa hnl
     go_wp2_with fail
     go_ret
     exact ⟨by rw [HL.out]; rfl, rfl⟩
end
section
def av.app (t : av) (r : RT) (p : Int) : av := ⟨t.ps ++ psR r t.ps.length p, t.ns ++ b7 r⟩
def av.apps (t : av) (rs : List RT) (own : Nat) : av := ⟨t.ps ++ psRs rs own t.ps.length, t.ns ++ cu rs⟩
theorem DJ : ∀ (a b : List RT) (own n : Nat), psRs (a ++ b) own n = psRs a own n ++ psRs b own (n + sizeRs a)
 | [], _, _, _ => rfl
 | r :: a, b, own, n => by rw [List.cons_append, psRs, psRs, DJ a b own (n + aG r), sizeRs, List.append_assoc, Nat.add_assoc]
theorem DK : ∀ (a b : List RT), cu (a ++ b) = cu a ++ cu b
 | [], _ => rfl
 | r :: a, b => by rw [List.cons_append, cu, cu, DK a b, List.append_assoc]
theorem Nn (t : av) (own : Nat) : t.apps [] own = t := by simp [av.apps, psRs, cu]
theorem KM (t : av) (a b : List RT) (own : Nat) : (t.apps a own).apps b own = t.apps (a ++ b) own := by
 unfold av.apps
 rw [DJ, DK, List.append_assoc, List.append_assoc, List.length_append, mh]
theorem Np (t : av) (a : List RT) (r : RT) (own : Nat) : (t.apps a own).app r (own : Int) = t.apps (a ++ [r]) own := by
 rw [← KM]
 simp [av.apps, av.app, psRs, cu]
end
end Go.Proofs.YteegefnjnikngaaGreat
