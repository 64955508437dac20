/- The contract of layer 31's reference's with and number. -/
import Derived.Test.YthgabkgmkolobaaGreatQ1
import Derived.Deep.CutRange
import Derived.Test.YthgabkgmkolobaaGreatQ17
import Derived.Test.YthgabkgmkolobaaGreatQ14
set_option maxRecDepth 100000
namespace Go.Proofs.YthgabkgmkolobaaGreat
open Go.RowKit Go.Deep
structure RW (tb B0 : Nat) (w W : World) (P N Pv Nv : Value) (ps : List Int) (ns : List ByteArray) : Prop where
 gk : GK tb w W P N Pv Nv
 tl : TL B0 W Pv Nv ps ns
 same : W.heap[tb]? = w.heap[tb]?
 lo : (tb < w.heap.size ∧ P.ownBlock ≠ some tb ∧ N.ownBlock ≠ some tb) ∧ B0 ≤ w.heap.size
section
variable {tb B0 : Nat} {w W W' : World} {P N Pv Nv : Value} {ps : List Int} {ns : List ByteArray}
theorem RW.start (h : TL B0 w P N ps ns) (hl : (tb < w.heap.size ∧ P.ownBlock ≠ some tb ∧ N.ownBlock ≠ some tb) ∧ B0 ≤ w.heap.size) : RW tb B0 w w P N P N ps ns := ⟨GK.refl _ _ _ _, h, rfl, hl⟩
theorem RW.notP (h : RW tb B0 w W P N Pv Nv ps ns) : Pv.ownBlock ≠ some tb := fun e => by
 rcases h.gk.oL tb e with h1 | h1
 ·exact h.lo.1.2.1 h1
 ·have := h.lo.1.1; omega
theorem RW.notN (h : RW tb B0 w W P N Pv Nv ps ns) : Nv.ownBlock ≠ some tb := fun e => by
 rcases h.gk.oM tb e with h1 | h1
 ·exact h.lo.1.2.2 h1
 ·have := h.lo.1.1; omega
theorem RW.up (h : RW tb B0 w W P N Pv Nv ps ns) (hu : Up W W') : RW tb B0 w W' P N Pv Nv ps ns :=
 ⟨h.gk.up hu, h.tl.up hu, (Below.block hu tb (by have := h.gk.size; have := h.lo.1.1; omega)).trans h.same, h.lo⟩
theorem RW.AE (h : RW tb B0 w W P N Pv Nv ps ns) {g cap k : Nat} {u : Int} (ho : aC B0 3 W' (.slice (some ⟨g, 0, none⟩) k cap) (ps.map (Value.int .i64) ++ [.int .i64 u])) (hg : W.grownBy W' Pv.ownBlock) (ep : Pv.ownBlock = some g ∨ W.heap.size ≤ g) :
  RW tb B0 w W' P N (.slice (some ⟨g, 0, none⟩) k cap) Nv (ps ++ [u]) ns := by
 have hlo := h.lo
 have hsz := h.gk.size
 have hnp := h.notP
 refine ⟨⟨hg.os.trans h.gk.os, hg.tape.trans h.gk.tape, hg.output.trans h.gk.output, Nat.le_trans hsz hg.size, fun b hb h1 h2 h3 => ?_, fun b hb => ?_, h.gk.oM⟩, ⟨by rw [List.map_append]; exact ho, h.tl.dF.eD fun b hb => hg.block b (aF h.tl.dF hb).2 (fun e => h.tl.apart b e.symm hb), fun b hb hb2 => ?_⟩, (hg.block tb (by have := hlo.1.1; omega) (fun e => hnp e.symm)).trans h.same, hlo⟩
 ·rw [← h.gk.block b hb h1 h2 h3]
  refine hg.block b (by omega) fun e => ?_
  rcases h.gk.oL b e.symm with h4 | h4
  ·exact h2 h4.symm
  ·omega
 ·injection hb with hb
  have hb : g = b := hb
  subst hb
  rcases ep with h4 | h4
  ·exact h.gk.oL g h4
  ·exact .inr (by omega)
 ·injection hb with hb
  have hb : g = b := hb
  subst hb
  rcases ep with h1 | h1
  ·exact h.tl.apart g h1 hb2
  ·have := (aF h.tl.dF hb2).2; omega
theorem RW.AG (h : RW tb B0 w W P N Pv Nv ps ns) {g cap k : Nat} {u : ByteArray} (ho : aC B0 9 W' (.slice (some ⟨g, 0, none⟩) k cap) (ns.map Value.string ++ [.string u])) (hg : W.grownBy W' Nv.ownBlock) (ep : Nv.ownBlock = some g ∨ W.heap.size ≤ g) :
  RW tb B0 w W' P N Pv (.slice (some ⟨g, 0, none⟩) k cap) ps (ns ++ [u]) := by
 have hlo := h.lo
 have hsz := h.gk.size
 have hnn := h.notN
 refine ⟨⟨hg.os.trans h.gk.os, hg.tape.trans h.gk.tape, hg.output.trans h.gk.output, Nat.le_trans hsz hg.size, fun b hb h1 h2 h3 => ?_, h.gk.oL, fun b hb => ?_⟩, ⟨h.tl.cR.eD fun b hb => hg.block b (aF h.tl.cR hb).2 (fun e => h.tl.apart b hb e.symm), by rw [List.map_append]; exact ho, fun b hb hb2 => ?_⟩, (hg.block tb (by have := hlo.1.1; omega) (fun e => hnn e.symm)).trans h.same, hlo⟩
 ·rw [← h.gk.block b hb h1 h2 h3]
  refine hg.block b (by omega) fun e => ?_
  rcases h.gk.oM b e.symm with h4 | h4
  ·exact h3 h4.symm
  ·omega
 ·injection hb with hb
  have hb : g = b := hb
  subst hb
  rcases ep with h4 | h4
  ·exact h.gk.oM g h4
  ·exact .inr (by omega)
 ·injection hb2 with hb2
  have hb2 : g = b := hb2
  subst hb2
  rcases ep with h1 | h1
  ·exact h.tl.apart g hb h1
  ·have := (aF h.tl.cR hb).2; omega
theorem RW.cells {P0 N0 : Value} (h : RW tb B0 w W P N Pv Nv ps ns) (hb : w.heap[tb]? = some (Obj.cells #[P0, N0] 39 (0, 0))) :
  W.cell? ⟨tb, 0, none⟩ = some P0 ∧ W.cell? ⟨tb, 1, none⟩ = some N0 := by
 have h1 := h.same.trans hb
 exact ⟨by simp [World.cell?, h1], by simp [World.cell?, h1]⟩
theorem RW.frozen {P0 N0 : Value} (h : RW tb B0 w W P N Pv Nv ps ns) (hb : w.heap[tb]? = some (Obj.cells #[P0, N0] 39 (0, 0))) (o : Nat) : W.frozen? ⟨tb, o, none⟩ = false := by
 have h1 := h.same.trans hb
 simp [World.frozen?, h1]
end
structure GW (tb B0 : Nat) (W : World) (P N : Value) (t : ay) : Prop where
 box : W.heap[tb]? = some (Obj.cells #[P, N] 39 (0, 0))
 tl : TL B0 W P N t.ps t.ns
 lo : (P.ownBlock ≠ some tb ∧ N.ownBlock ≠ some tb) ∧ B0 ≤ W.heap.size
theorem GW.lt {tb B0 : Nat} {W : World} {P N : Value} {t : ay} (h : GW tb B0 W P N t) : tb < W.heap.size := (Array.getElem?_eq_some_iff.1 h.box).1
theorem GW.cells {tb B0 : Nat} {W : World} {P N : Value} {t : ay} (h : GW tb B0 W P N t) : W.cell? ⟨tb, 0, none⟩ = some P ∧ W.cell? ⟨tb, 1, none⟩ = some N ∧ W.frozen? ⟨tb, 0, none⟩ = false ∧ W.frozen? ⟨tb, 1, none⟩ = false := by
 refine ⟨?_, ?_, ?_, ?_⟩ <;> simp [World.cell?, World.frozen?, h.box]
theorem GW.put {tb B0 : Nat} {W X : World} {P N P' N' : Value} {t u : ay} (h : GW tb B0 W P N t) (hk : GK tb W X P N P' N') (hs : X.heap[tb]? = W.heap[tb]?) (ht : TL B0 X P' N' u.ps u.ns) :
  GW tb B0 ((X.setCell ⟨tb, 0, none⟩ P').setCell ⟨tb, 1, none⟩ N') P' N' u ∧ GK tb W ((X.setCell ⟨tb, 0, none⟩ P').setCell ⟨tb, 1, none⟩ N') P N P' N' := by
 have h1 := hs.trans h.box
 have hl := h.lt
 have hp : P'.ownBlock ≠ some tb := fun e => by
  rcases hk.oL tb e with h2 | h2
  ·exact h.lo.1.1 h2
  ·omega
 have hn : N'.ownBlock ≠ some tb := fun e => by
  rcases hk.oM tb e with h2 | h2
  ·exact h.lo.1.2 h2
  ·omega
 have cw : ∀ b, b ≠ tb → ((X.setCell ⟨tb, 0, none⟩ P').setCell ⟨tb, 1, none⟩ N').heap[b]? = X.heap[b]? := fun b hb => by rw [blk_setCell_other _ _ _ _ hb, blk_setCell_other _ _ _ _ hb]
 have hsz : ((X.setCell ⟨tb, 0, none⟩ P').setCell ⟨tb, 1, none⟩ N').heap.size = X.heap.size := by simp [World.size_setCell]
 refine ⟨⟨by simp [World.setCell, Array.getElem?_modify, h1], ⟨ht.cR.eD fun b hb => cw b (fun e => hp (by rw [hb, e])), ht.dF.eD fun b hb => cw b (fun e => hn (by rw [hb, e])), ht.apart⟩, ⟨hp, hn⟩, by rw [hsz]; exact Nat.le_trans h.lo.2 hk.size⟩, hk.os, hk.tape, hk.output, by rw [hsz]; exact hk.size, fun b hb h2 h3 h4 => (cw b h2).trans (hk.block b hb h2 h3 h4), hk.oL, hk.oM⟩
theorem RW.store {tb B0 : Nat} {w W : World} {P N Pv Nv : Value} {t : ay} {z : Int} {nm : ByteArray} (h0 : GW tb B0 w P N t) (h : RW tb B0 w W P N Pv Nv (t.ps ++ [z]) (t.ns ++ [nm])) :
  GW tb B0 ((W.setCell ⟨tb, 0, none⟩ Pv).setCell ⟨tb, 1, none⟩ Nv) Pv Nv (t.push z nm) ∧ GK tb w ((W.setCell ⟨tb, 0, none⟩ Pv).setCell ⟨tb, 1, none⟩ Nv) P N Pv Nv := h0.put h.gk h.same h.tl
theorem GK.keepR {tb : Nat} {w W : World} {P N P' N' : Value} (h : GK tb w W P N P' N') {S : Nat → Prop} (hS : ∀ b, S b → b < w.heap.size → b ≠ tb ∧ P.ownBlock ≠ some b ∧ N.ownBlock ≠ some b) : Kept S w W := fun b hb hl => by
 obtain ⟨h1, h2, h3⟩ := hS b hb hl
 exact h.block b hl h1 (fun e => h2 e.symm) (fun e => h3 e.symm)
def O4 (B0 : Nat) (w : World) (P N : Value) (t : ay) (r : RT) (par : Int) (e : Ending) (w' : World) : Prop :=
 ∃ P' N', e = .returned (.agg #[P', N']) ∧ TL B0 w' P' N' (t.app r par).ps (t.app r par).ns ∧ GK w.heap.size w w' P N P' N'
theorem R6 (t : ay) (nm : ByteArray) (ks : List RT) (par : Int) : (t.push par nm).apps ks t.ps.length = t.app (.node nm ks) par := by
 unfold ay.apps ay.app ay.push
 rw [psR, cM]
 simp
theorem R7 (t : ay) (ks : List RT) {j : Nat} (h : j < ks.length) (own : Nat) : (t.apps (ks.take j) own).app (gr ks j) (own : Int) = t.apps (ks.take (j + 1)) own := by
 have hg : gr ks j = ks[j] := by simp [gr, h]
 rw [R3, hg, List.take_succ_eq_append_getElem h]
theorem MC (ks : List RT) {j : Nat} (h : j < ks.length) : sizeRs (ks.take j) + aH (gr ks j) ≤ sizeRs ks := by
 induction ks generalizing j with
 | nil => simp at h
 | cons k ks ih =>
  cases j with
  | zero => rw [List.take_zero, sizeRs, sizeRs]; show _ + aH k ≤ _; omega
  | succ j =>
   have := ih (j := j) (by simpa using h)
   rw [List.take_succ_cons, sizeRs, sizeRs]
   show _ + aH (gr ks j) ≤ _
   omega
theorem R8 (w : World) : Up w w.drew := Up.drewN w 1
theorem zi {tb B0 : Nat} {wo w3 : World} {P N P2 N2 : Value} {T : ay} (h : GW tb B0 wo P N T) (hk : GK wo.drew.heap.size wo.drew w3 P N P2 N2) : w3.heap[tb]? = wo.heap[tb]? := by
 have hl := h.lt
 exact hk.block tb hl (fun e => by have : tb = wo.heap.size := e; omega) (fun e => h.lo.1.1 e.symm) (fun e => h.lo.1.2 e.symm)
theorem O5 {tb B0 : Nat} {wo w3 : World} {P N P2 N2 : Value} {T : ay} (h : GW tb B0 wo P N T) (hk : GK wo.drew.heap.size wo.drew w3 P N P2 N2) (o : Nat) : w3.frozen? ⟨tb, o, none⟩ = false := by
 have h1 := (zi h hk).trans h.box
 simp [World.frozen?, h1]
theorem wt_gk {tb B0 : Nat} {wo w3 : World} {P N P2 N2 : Value} {T : ay} (_ : GW tb B0 wo P N T) (hk : GK wo.drew.heap.size wo.drew w3 P N P2 N2) : GK tb wo w3 P N P2 N2 :=
 ⟨hk.os, hk.tape, hk.output, hk.size, fun b hb _ h2 h3 => hk.block b hb (fun e => by have : b = wo.heap.size := e; omega) h2 h3, hk.oL, hk.oM⟩
set_option maxHeartbeats 4000000 in
theorem Yz (B0 : Nat) : ∀ (d : Nat) (r : RT), aH r ≤ d → ∀ (w : World) (P N v : Value) (t : ay) (par : Int), TL B0 w P N t.ps t.ns → B0 ≤ w.heap.size → t.ns.length = t.ps.length → t.ps.length + aH r ≤ 100000 →
  RAt (fun b => P.ownBlock ≠ some b ∧ N.ownBlock ≠ some b) w r v → Calls Tryz.prog 253 #[.agg #[P, N], v, .int .i64 par] w (O4 B0 w P N t r par) := by
 intro d
 induction d with
 | zero => intro r hr; have := gD r; omega
 | succ d ih =>
 intro r hr w P N v t par K9 hB0 hnl hbd hv
 cases r with
 | node nm ks =>
  obtain ⟨xb, kp, kc, vs, rfl, hS, c0, c1, hk, hs⟩ := hv.open
  simp only [RT.nm, RT.kids] at c0 c1 hk hs
  have fT := nN ks
  rw [aH] at hr hbd
  obtain ⟨pp, pc, rfl, _, _⟩ := aB.open K9.cR.ints
  obtain ⟨np, nc, rfl, _, _⟩ := aB.open K9.dF.strs
  have js := aa ih
  have fD := aa hnl
  have YA := Up.alloc w (.cells #[.slice pp t.ps.length pc, .slice np t.ns.length nc] 39)
  have bf := YA.trans (Up.alloc _ (.cells #[.slice none 0 0, .slice none 0 0] 39))
  have hsz : ((w.alloc (.cells #[.slice pp t.ps.length pc, .slice np t.ns.length nc] 39)).alloc (.cells #[.slice none 0 0, .slice none 0 0] 39)).heap.size = w.heap.size + 2 := by simp
  have hb1 : ((w.alloc (.cells #[.slice pp t.ps.length pc, .slice np t.ns.length nc] 39)).alloc (.cells #[.slice none 0 0, .slice none 0 0] 39)).heap[w.heap.size]? = some (Obj.cells #[.slice pp t.ps.length pc, .slice np t.ns.length nc] 39 (0, 0)) :=
   (Below.block (Up.alloc (w.alloc (.cells #[.slice pp t.ps.length pc, .slice np t.ns.length nc] 39)) _) w.heap.size (by rw [World.size_alloc]; omega)).trans (World.alloc_heap_new _ _)
  have hrb := fh (w := w.alloc (.cells #[.slice pp t.ps.length pc, .slice np t.ns.length nc] 39)) (P := .slice none 0 0) (N := .slice none 0 0) (T := 39)
  rw [World.size_alloc] at hrb
  have hpl : ∀ b, (Value.slice pp t.ps.length pc).ownBlock = some b → b < w.heap.size := fun b hb => (aF K9.cR hb).2
  have C6 : ∀ b, (Value.slice np t.ns.length nc).ownBlock = some b → b < w.heap.size := fun b hb => (aF K9.dF hb).2
  have HG : Hid (GW w.heap.size B0 ((w.alloc (.cells #[.slice pp t.ps.length pc, .slice np t.ns.length nc] 39)).alloc (.cells #[.slice none 0 0, .slice none 0 0] 39)) (.slice pp t.ps.length pc) (.slice np t.ns.length nc) t) :=
   ⟨hb1, K9.up bf, ⟨fun e => by have := hpl _ e; omega, fun e => by have := C6 _ e; omega⟩, by omega⟩
  have eH := aa (bf.cell c0)
  have kQ := aa (bf.cell c1)
  have hxl : xb < w.heap.size := World.block_lt_of_cell? w _ c0
  have O6 : Hid (aB (fun b => b < w.heap.size ∧ (Value.slice pp t.ps.length pc).ownBlock ≠ some b ∧ (Value.slice np t.ns.length nc).ownBlock ≠ some b) ((w.alloc (.cells #[.slice pp t.ps.length pc, .slice np t.ns.length nc] 39)).alloc (.cells #[.slice none 0 0, .slice none 0 0] 39)) (.slice kp ks.length kc) ks.length (vN vs)) :=
   (hk.sub (T := fun b => b < w.heap.size ∧ (Value.slice pp t.ps.length pc).ownBlock ≠ some b ∧ (Value.slice np t.ns.length nc).ownBlock ≠ some b) fun b hb hl => ⟨hl, hb⟩).keep (bf.kept _)
  have O7 : Hid (RsAt (fun b => b < w.heap.size ∧ (Value.slice pp t.ps.length pc).ownBlock ≠ some b ∧ (Value.slice np t.ns.length nc).ownBlock ≠ some b) ((w.alloc (.cells #[.slice pp t.ps.length pc, .slice np t.ns.length nc] 39)).alloc (.cells #[.slice none 0 0, .slice none 0 0] 39)) ks vs) :=
   RsAt.keep (bf.kept _) ks (RsAt.sub (fun b hb hl => ⟨hl, hb⟩) ks hs)
  have lT := aa hrb
  have ct := aa hsz
  have kC := aa bf
  have HS := aa hS
  have HPB := aa hpl
  have mV := aa C6
  have jO := aa hbd
  have Gk := aa (R6 t nm ks par)
  have iB := aa fT
  have HR := aa hr
  have hb10 := HG.out.cells.1
  clear ih hv YA bf hb1 hrb hpl C6 K9 hk hs hnl c0 c1 hS hbd fT hr
  go_enter Tryz.func253, Tryz.ntmps253
  go_wp2_with fail
  clear hb10
  generalize (w.alloc (.cells #[.slice pp t.ps.length pc, .slice np t.ns.length nc] 39)).alloc (.cells #[.slice none 0 0, .slice none 0 0] 39) = w2 at *
  generalize htb : w.heap.size = tb at *
  have YB : Hid (∀ (W : World) (P' N' : Value), GK tb w2 W (.slice pp t.ps.length pc) (.slice np t.ns.length nc) P' N' → W.cell? ⟨xb, 0, none⟩ = some (.string nm) ∧ W.cell? ⟨xb, 1, none⟩ = some (.slice kp ks.length kc)) := fun W P' N' hk => by
   have h1 := hk.block xb (by rw [ct.out]; omega) (by omega) (fun e => HS.out.1 e.symm) (fun e => HS.out.2 e.symm)
   exact ⟨(World.cell?_of_block (a := ⟨xb, 0, none⟩) h1).trans eH.out, (World.cell?_of_block (a := ⟨xb, 1, none⟩) h1).trans kQ.out⟩
  go_cut [] from 12 to 26 (fun wx => ∃ P' N', GW tb B0 wx P' N' (t.push par nm) ∧ GK tb w2 wx (.slice pp t.ps.length pc) (.slice np t.ns.length nc) P' N')
  case first =>
   have hd := Up.drewN w2 1
   have nO := aa HG.out
   have dR := aa HG.out.box
   have O8 : Hid (RW tb B0 w2 w2.drew (.slice pp t.ps.length pc) (.slice np t.ns.length nc) (.slice pp t.ps.length pc) (.slice np t.ns.length nc) t.ps t.ns) := (RW.start HG.out.tl ⟨⟨HG.out.lt, HG.out.lo.1⟩, HG.out.lo.2⟩).up hd
   have mR : Hid (t.ps.length ≤ 1000000 ∧ t.ns.length ≤ 1000000) := by have := jO.out; have := fD.out; unfold Hid; omega
   have p9 : Hid (∀ {W : World} {P' N' : Value} {ps' : List Int} {ns' : List ByteArray}, RW tb B0 w2 W (.slice pp t.ps.length pc) (.slice np t.ns.length nc) P' N' ps' ns' → W.cell? ⟨tb, 0, none⟩ = some (.slice pp t.ps.length pc) ∧ W.cell? ⟨tb, 1, none⟩ = some (.slice np t.ns.length nc) ∧ W.cell? ⟨xb, 0, none⟩ = some (.string nm)) :=
    fun h => ⟨(h.cells dR.out).1, (h.cells dR.out).2, (YB.out _ _ _ h.gk).1⟩
   refine dM (by kernel_rfl) 13 (fun w' => w'.cell? ⟨tb, 0, none⟩ = some (.slice pp t.ps.length pc) ∧ w'.cell? ⟨tb, 1, none⟩ = some (.slice np t.ns.length nc) ∧ w'.cell? ⟨xb, 0, none⟩ = some (.string nm)) (p9.out O8.out) (fun hS => ?_)
   simp only [List.size_toArray, List.length_cons, List.length_nil, Nat.reduceAdd, Array.replicate_succ, Array.replicate_zero, List.push_toArray, List.nil_append, List.cons_append]
   generalize w2.drew = Wd at *
   refine af.take (i := 0) (v := ?Ou) rfl (by kernel_rfl) (fun _ _ _ h => h) (by rfl) (fun w hSw => ?xV) hS ?Ov
   case xV =>
    (try dsimp only at hSw)
    go_simp
    try with_reducible rfl
   try simp only [Act.put, au, av, ax]
   refine af.take (i := 1) (v := ?Ow) rfl (by kernel_rfl) (fun _ _ _ h => h) (by rfl) (fun w hSw => ?xW) hS ?Ox
   case xW =>
    (try dsimp only at hSw)
    go_simp
    try with_reducible rfl
   try simp only [Act.put, au, av, ax]
   refine af.take (i := 2) (v := ?Oy) rfl (by kernel_rfl) (fun _ _ _ h => h) (by rfl) (fun w hSw => ?xX) hS ?Oz
   case xX =>
    (try dsimp only at hSw)
    go_simp
    try with_reducible rfl
   try simp only [Act.put, au, av, ax]
   refine af.take (i := 5) (v := ?XS) rfl (by kernel_rfl) (fun _ _ _ h => h) (by rfl) (fun w hSw => ?Gp) hS ?XT
   case Gp =>
    (try dsimp only at hSw)
    go_simp
    try with_reducible rfl
   try simp only [Act.put, au, av, ax]
   refine af.take (i := 6) (v := ?XU) rfl (by kernel_rfl) (fun _ _ _ h => h) (by rfl) (fun w hSw => ?Gq) hS ?XV
   case Gq =>
    (try dsimp only at hSw)
    go_simp
    try with_reducible rfl
   try simp only [Act.put, au, av, ax]
   refine af.take (i := 7) (v := ?UD) rfl (by kernel_rfl) (fun _ _ _ h => h) (by rfl) (fun w hSw => ?BF) hS ?UE
   case BF =>
    (try dsimp only at hSw)
    go_simp
    try with_reducible rfl
   try simp only [Act.put, au, av, ax]
   refine af.take (i := 8) (v := ?UF) rfl (by kernel_rfl) (fun _ _ _ h => h) (by rfl) (fun w hSw => ?BG) hS ?UG
   case BG =>
    (try dsimp only at hSw)
    go_simp
    try with_reducible rfl
   try simp only [Act.put, au, av, ax]
   refine af.take (i := 9) (v := ?UH) rfl (by kernel_rfl) (fun _ _ _ h => h) (by rfl) (fun w hSw => ?BH) hS ?UI
   case BH =>
    (try dsimp only at hSw)
    go_simp
    try with_reducible rfl
   try simp only [Act.put, au, av, ax]
   refine af.take (i := 10) (v := ?Rx) rfl (by kernel_rfl) (fun _ _ _ h => h) (by rfl) (fun w hSw => ?AA) hS ?Ry
   case AA =>
    (try dsimp only at hSw)
    go_simp
    try with_reducible rfl
   try simp only [Act.put, au, av, ax]
   refine af.zg (i := 3) (i2 := 11) rfl rfl (by kernel_rfl) (fun K' hK => ?_) (fun K' hK => ?_)
   ·go_simp
    have BR : Hid (RW tb B0 _ (Wd.alloc (.cells #[.int .i64 par] 3)) _ _ _ _ _ _) := O8.out.up (Up.alloc _ _)
    refine hK.out _ _ (fun _ => p9.out BR.out) (fun _ => ?_)
    try simp only [au, av, ax]
    refine af.zg (i := 4) (i2 := 11) rfl rfl (by kernel_rfl) (fun K' hK => ?_) (fun K' hK => ?_)
    ·refine fN (by rfl) _ _ _ (by rfl) B0 3 _ 8 Tryz.underlying26 Tryz.ki (by rfl) (by decide) (by rfl) BR.out.tl.cR (.int .i64 par) Wd.heap.size (by rfl) (aO Wd #[.int .i64 par] 3 0) (by rfl) (by rw [List.length_map]; exact mR.out.1) (Nat.le_trans BR.out.lo.2 BR.out.gk.size) ?_
     intro g1 OQ jS rT j8 hrg1 _
     have rZ : Hid (RW tb B0 _ jS _ _ _ _ _ _) := BR.out.AE rT j8 (hrg1.imp id (fun e => Nat.le_of_eq e.symm))
     refine hK.out _ _ (fun _ => p9.out rZ.out) (fun _ => ?_)
     try simp only [Act.put, au, av, ax]
     refine af.free (i := 13) (v := ?gv13a) rfl (by kernel_rfl) (fun _ _ _ h => h) (by rfl) (fun w => ?gy13a) (fun _ => p9.out rZ.out) ?gr13a
     case gy13a =>
      go_simp
      try with_reducible rfl
     try simp only [Act.put, au, av, ax]
     refine af.step (i := 11) rfl (by kernel_rfl) (fun K' hK => ?_)
     go_simp
     have nP : Hid (RW tb B0 _ (jS.alloc (.cells #[.string nm] 9)) _ _ _ _ _ _) := rZ.out.up (Up.alloc _ _)
     refine hK.out _ _ (fun _ => p9.out nP.out) (fun _ => ?_)
     try simp only [au, av, ax]
     refine af.step (i := 12) rfl (by kernel_rfl) (fun K' hK => ?_)
     refine fN (by rfl) _ _ _ (by rfl) B0 9 _ 16 Tryz.underlying22 Tryz.fo (by rfl) (by decide) (by rfl) nP.out.tl.dF (.string nm) jS.heap.size (by rfl) (aO jS #[.string nm] 9 0) (by rfl) (by rw [List.length_map]; exact mR.out.2) (Nat.le_trans nP.out.lo.2 nP.out.gk.size) ?_
     intro g2 OS eU rU nH hrg2 _
     have qa : Hid (RW tb B0 _ eU _ _ _ _ _ _) := nP.out.AG rU nH (hrg2.imp id (fun e => Nat.le_of_eq e.symm))
     refine hK.out _ _ (fun _ => p9.out qa.out) (fun _ => ?_)
     try simp only [Act.put, au, av, ax]
     obtain ⟨x4, nI⟩ := qa.out.cells dR.out
     have OT := qa.out.frozen dR.out 0
     have GI := qa.out.frozen dR.out 1
     have nJ := aa (qa.out.store nO.out)
     refine af.step (i := 14) rfl (by kernel_rfl) (fun K' hK => ?_)
     go_simp
     refine hK.out _ _ (aJ (by kernel_rfl)) (fun _ => ?_)
     try simp only [au, av, ax]
     refine af.free (i := 15) (v := ?gv15a) rfl (by kernel_rfl) (fun _ _ _ h => h) (by rfl) (fun w => ?Mt) (aJ (by kernel_rfl)) ?gr15a
     case Mt =>
      go_simp
      try with_reducible rfl
     try simp only [Act.put, au, av, ax]
     refine af.step (i := 16) rfl (by kernel_rfl) (fun K' hK => ?_)
     go_simp
     refine hK.out _ _ (aJ (by kernel_rfl)) (fun _ => ?_)
     refine af.done (by kernel_rfl) ?_
     go_wp2_with fail
     go_meet
     case rel =>
      have dr := nJ.out
      simp only [List.length_map] at dr
      exact ⟨_, _, dr.1, dr.2⟩
    ·go_simp
     have rZ : Hid (RW tb B0 _ ((Wd.alloc (.cells #[.int .i64 par] 3)).alloc (.cells #[.string nm] 9)) _ _ _ _ _ _) := BR.out.up (Up.alloc _ _)
     refine hK.out _ _ (fun _ => p9.out rZ.out) (fun _ => ?_)
     try simp only [au, av, ax]
     have qB := aO (Wd.alloc (.cells #[.int .i64 par] 3)) #[.string nm] 9 0
     have nA := (Up.alloc (Wd.alloc (.cells #[.int .i64 par] 3)) (.cells #[.string nm] 9)).cell (aO Wd #[.int .i64 par] 3 0)
     rw [World.size_alloc] at qB
     refine af.step (i := 4) rfl (by kernel_rfl) (fun K' hK => ?_)
     refine fN (by rfl) _ _ _ (by rfl) B0 3 _ 8 Tryz.underlying26 Tryz.ki (by rfl) (by decide) (by rfl) rZ.out.tl.cR (.int .i64 par) Wd.heap.size (by rfl) nA (by rfl) (by rw [List.length_map]; exact mR.out.1) (Nat.le_trans rZ.out.lo.2 rZ.out.gk.size) ?_
     intro g1 OQ jS rT j8 hrg1 _
     have nP : Hid (RW tb B0 _ jS _ _ _ _ _ _) := rZ.out.AE rT j8 (hrg1.imp id (fun e => Nat.le_of_eq e.symm))
     have rH : jS.cell? ⟨Wd.heap.size + 1, 0, none⟩ = some (.string nm) := by
      rw [j8.cell_far ⟨Wd.heap.size + 1, 0, none⟩ (by simp) (fun e => absurd (aF O8.out.tl.cR e.symm).2 (by show ¬ (Wd.heap.size + 1 < Wd.heap.size); omega))]; exact qB
     refine hK.out _ _ (fun _ => p9.out nP.out) (fun _ => ?_)
     try simp only [Act.put, au, av, ax]
     refine af.free (i := 13) (v := ?gv13b) rfl (by kernel_rfl) (fun _ _ _ h => h) (by rfl) (fun w => ?gy13b) (fun _ => p9.out nP.out) ?gr13b
     case gy13b =>
      go_simp
      try with_reducible rfl
     try simp only [Act.put, au, av, ax]
     refine af.step (i := 12) rfl (by kernel_rfl) (fun K' hK => ?_)
     refine fN (by rfl) _ _ _ (by rfl) B0 9 _ 16 Tryz.underlying22 Tryz.fo (by rfl) (by decide) (by rfl) nP.out.tl.dF (.string nm) (Wd.heap.size + 1) (by rfl) rH (by rfl) (by rw [List.length_map]; exact mR.out.2) (Nat.le_trans nP.out.lo.2 nP.out.gk.size) ?_
     intro g2 OS eU rU nH hrg2 _
     have qa : Hid (RW tb B0 _ eU _ _ _ _ _ _) := nP.out.AG rU nH (hrg2.imp id (fun e => Nat.le_of_eq e.symm))
     refine hK.out _ _ (fun _ => p9.out qa.out) (fun _ => ?_)
     try simp only [Act.put, au, av, ax]
     obtain ⟨x4, nI⟩ := qa.out.cells dR.out
     have OT := qa.out.frozen dR.out 0
     have GI := qa.out.frozen dR.out 1
     have nJ := aa (qa.out.store nO.out)
     refine af.step (i := 14) rfl (by kernel_rfl) (fun K' hK => ?_)
     go_simp
     refine hK.out _ _ (aJ (by kernel_rfl)) (fun _ => ?_)
     try simp only [au, av, ax]
     refine af.free (i := 15) (v := ?gv15b) rfl (by kernel_rfl) (fun _ _ _ h => h) (by rfl) (fun w => ?Mu) (aJ (by kernel_rfl)) ?gr15b
     case Mu =>
      go_simp
      try with_reducible rfl
     try simp only [Act.put, au, av, ax]
     refine af.step (i := 16) rfl (by kernel_rfl) (fun K' hK => ?_)
     go_simp
     refine hK.out _ _ (aJ (by kernel_rfl)) (fun _ => ?_)
     refine af.done (by kernel_rfl) ?_
     go_wp2_with fail
     go_meet
     case rel =>
      have dr := nJ.out
      simp only [List.length_map] at dr
      exact ⟨_, _, dr.1, dr.2⟩
   ·go_simp
    have BR : Hid (RW tb B0 _ (Wd.alloc (.cells #[.string nm] 9)) _ _ _ _ _ _) := O8.out.up (Up.alloc _ _)
    refine hK.out _ _ (fun _ => p9.out BR.out) (fun _ => ?_)
    try simp only [au, av, ax]
    refine af.step (i := 3) rfl (by kernel_rfl) (fun K' hK => ?_)
    go_simp
    have rZ : Hid (RW tb B0 _ ((Wd.alloc (.cells #[.string nm] 9)).alloc (.cells #[.int .i64 par] 3)) _ _ _ _ _ _) := BR.out.up (Up.alloc _ _)
    refine hK.out _ _ (fun _ => p9.out rZ.out) (fun _ => ?_)
    try simp only [au, av, ax]
    have nA := aO (Wd.alloc (.cells #[.string nm] 9)) #[.int .i64 par] 3 0
    have qB := (Up.alloc (Wd.alloc (.cells #[.string nm] 9)) (.cells #[.int .i64 par] 3)).cell (aO Wd #[.string nm] 9 0)
    rw [World.size_alloc] at nA
    refine af.step (i := 4) rfl (by kernel_rfl) (fun K' hK => ?_)
    refine fN (by rfl) _ _ _ (by rfl) B0 3 _ 8 Tryz.underlying26 Tryz.ki (by rfl) (by decide) (by rfl) rZ.out.tl.cR (.int .i64 par) (Wd.heap.size + 1) (by rfl) nA (by rfl) (by rw [List.length_map]; exact mR.out.1) (Nat.le_trans rZ.out.lo.2 rZ.out.gk.size) ?_
    intro g1 OQ jS rT j8 hrg1 _
    have nP : Hid (RW tb B0 _ jS _ _ _ _ _ _) := rZ.out.AE rT j8 (hrg1.imp id (fun e => Nat.le_of_eq e.symm))
    have rH : jS.cell? ⟨Wd.heap.size, 0, none⟩ = some (.string nm) := by
     rw [j8.cell_far ⟨Wd.heap.size, 0, none⟩ (by simp; omega) (fun e => absurd (aF O8.out.tl.cR e.symm).2 (by show ¬ (Wd.heap.size < Wd.heap.size); omega))]; exact qB
    refine hK.out _ _ (fun _ => p9.out nP.out) (fun _ => ?_)
    try simp only [Act.put, au, av, ax]
    refine af.free (i := 13) (v := ?gv13c) rfl (by kernel_rfl) (fun _ _ _ h => h) (by rfl) (fun w => ?gy13c) (fun _ => p9.out nP.out) ?gr13c
    case gy13c =>
     go_simp
     try with_reducible rfl
    try simp only [Act.put, au, av, ax]
    refine af.step (i := 12) rfl (by kernel_rfl) (fun K' hK => ?_)
    refine fN (by rfl) _ _ _ (by rfl) B0 9 _ 16 Tryz.underlying22 Tryz.fo (by rfl) (by decide) (by rfl) nP.out.tl.dF (.string nm) Wd.heap.size (by rfl) rH (by rfl) (by rw [List.length_map]; exact mR.out.2) (Nat.le_trans nP.out.lo.2 nP.out.gk.size) ?_
    intro g2 OS eU rU nH hrg2 _
    have qa : Hid (RW tb B0 _ eU _ _ _ _ _ _) := nP.out.AG rU nH (hrg2.imp id (fun e => Nat.le_of_eq e.symm))
    refine hK.out _ _ (fun _ => p9.out qa.out) (fun _ => ?_)
    try simp only [Act.put, au, av, ax]
    obtain ⟨x4, nI⟩ := qa.out.cells dR.out
    have OT := qa.out.frozen dR.out 0
    have GI := qa.out.frozen dR.out 1
    have nJ := aa (qa.out.store nO.out)
    refine af.step (i := 14) rfl (by kernel_rfl) (fun K' hK => ?_)
    go_simp
    refine hK.out _ _ (aJ (by kernel_rfl)) (fun _ => ?_)
    try simp only [au, av, ax]
    refine af.free (i := 15) (v := ?gv15c) rfl (by kernel_rfl) (fun _ _ _ h => h) (by rfl) (fun w => ?Mv) (aJ (by kernel_rfl)) ?gr15c
    case Mv =>
     go_simp
     try with_reducible rfl
    try simp only [Act.put, au, av, ax]
    refine af.step (i := 16) rfl (by kernel_rfl) (fun K' hK => ?_)
    go_simp
    refine hK.out _ _ (aJ (by kernel_rfl)) (fun _ => ?_)
    refine af.done (by kernel_rfl) ?_
    go_wp2_with fail
    go_meet
    case rel =>
     have dr := nJ.out
     simp only [List.length_map] at dr
     exact ⟨_, _, dr.1, dr.2⟩
  case rest =>
   obtain ⟨P1, N1, hG1, UX⟩ := hcut
   have HG1 := aa hG1
   have GC := aa UX
   have uI : Hid ((t.push par nm).apps (ks.take 0) t.ps.length = t.push par nm) := R2 _ _
   clear hG1 UX
   go_wp2_with fail
   go_loopw [8] (fun i wr => ∃ (j : Nat) (P' N' : Value), j ≤ ks.length ∧ i = .int .i64 j ∧ Hid (GW tb B0 wr P' N' ((t.push par nm).apps (ks.take j) t.ps.length)) ∧ Hid (GK tb w2 wr (.slice pp t.ps.length pc) (.slice np t.ns.length nc) P' N')) (fun i _ => ks.length - (intOf i).toNat)
   case atStart => exact ⟨0, P1, N1, Nat.zero_le _, rfl, by rw [uI.out]; exact HG1.out, GC.out⟩
   case round =>
    obtain ⟨j, P', N', hj, rfl, BS, BU⟩ := hrel
    obtain ⟨wo, rfl⟩ : ∃ wo : World, wo = wr := ⟨_, rfl⟩
    have hx := YB.out _ _ _ BU.out
    have hx1 := hx.2
    by_cases hlt : j < ks.length
    ·have hcs := BS.out.cells
     have hkr : Kept (fun b => b < tb ∧ (Value.slice pp t.ps.length pc).ownBlock ≠ some b ∧ (Value.slice np t.ns.length nc).ownBlock ≠ some b) w2 wo := BU.out.keepR fun b hb _ => ⟨by omega, hb.2⟩
     obtain ⟨kb, ko, rfl, hkc⟩ := nM (O6.out.keep hkr) hlt
     have BV := RAt.keep hkr _ (RsAt.get ks O7.out j hlt)
     have YC : RAt (fun b => P'.ownBlock ≠ some b ∧ N'.ownBlock ≠ some b) wo (gr ks j) (vN vs j) := RAt.sub (fun b hb hl => ⟨fun e => by
      rcases BU.out.oL b e with h1 | h1
      ·exact hb.2.1 h1
      ·have := hb.1; have := ct.out; omega, fun e => by
      rcases BU.out.oM b e with h1 | h1
      ·exact hb.2.2 h1
      ·have := hb.1; have := ct.out; omega⟩) _ BV
     have hgs := rj hlt
     obtain ⟨T, hT⟩ : ∃ T, T = (t.push par nm).apps (ks.take j) t.ps.length := ⟨_, rfl⟩
     have HTS : Hid (T.app (gr ks j) (t.ps.length : Int) = (t.push par nm).apps (ks.take (j + 1)) t.ps.length) := by rw [hT]; exact R7 _ _ hlt _
     have htl : T.ps.length = t.ps.length + 1 + sizeRs (ks.take j) ∧ T.ns.length = t.ns.length + 1 + sizeRs (ks.take j) := by
      rw [hT]; unfold ay.apps ay.push
      simp only [List.length_append, List.length_cons, List.length_nil, oJ, AL]
      exact ⟨trivial, trivial⟩
     have hsz2 := MC ks hlt
     rw [← hT] at BS
     have gw : Hid (∀ W, Up wo W → Calls Tryz.prog 253 #[.agg #[P', N'], vN vs j, .int .i64 (t.ps.length : Nat)] W (O4 B0 W P' N' T (gr ks j) (t.ps.length : Nat))) := fun W hW =>
      js.out (gr ks j) (by have := HR.out; omega) W P' N' (vN vs j) T _ (BS.out.tl.up hW) (Nat.le_trans BS.out.lo.2 hW.size) (by have := fD.out; omega) (by have := jO.out; omega) (RAt.keep (hW.kept _) _ YC)
     have Et := aa BS.out
     have HKJ := aa BU.out
     have i1 : (0 : Int) ≤ (j : Int) := by omega
     have i2 : (j : Int) < (ks.length : Int) := by omega
     have i3 : (j : Int) < 1000000 := by have := iB.out; have := jO.out; omega
     have aV := aa hlt
     have a0 := hcs.1
     have a1 := hcs.2.1
     clear hT htl hgs BV YC hkr hcs hx BS BU hsz2 hlt hj
     generalize vN vs j = kv at *
     generalize gr ks j = r at *
     go_wp2_with fail
     refine dM (by kernel_rfl) 10 (fun w' => w'.cell? ⟨tb, 0, none⟩ = some P' ∧ w'.cell? ⟨tb, 1, none⟩ = some N' ∧ w'.cell? ⟨xb, 1, none⟩ = some (.slice (some ⟨kb, ko, none⟩) ks.length kc) ∧ w'.cell? ⟨kb, ko + j, none⟩ = some kv) ⟨a0, a1, hx1, hkc⟩ (fun hS => ?_)
     simp only [List.size_toArray, List.length_cons, List.length_nil, Nat.reduceAdd, Array.replicate_succ, Array.replicate_zero, List.push_toArray, List.nil_append, List.cons_append]
     refine af.take (i := 0) (v := ?tq) rfl (by kernel_rfl) (fun _ _ _ h => h) (by rfl) (fun w hSw => ?iE) hS ?tr
     case iE =>
      (try dsimp only at hSw)
      go_simp
      try with_reducible rfl
     try simp only [Act.put, au, av, ax]
     refine af.take (i := 1) (v := ?tu) rfl (by kernel_rfl) (fun _ _ _ h => h) (by rfl) (fun w hSw => ?iF) hS ?tA
     case iF =>
      (try dsimp only at hSw)
      go_simp
      try with_reducible rfl
     try simp only [Act.put, au, av, ax]
     refine af.take (i := 2) (v := ?vM) rfl (by kernel_rfl) (fun _ _ _ h => h) (by rfl) (fun w hSw => ?jF) hS ?vO
     case jF =>
      (try dsimp only at hSw)
      go_simp
      try with_reducible rfl
     try simp only [Act.put, au, av, ax]
     refine af.take (i := 3) (v := ?vP) rfl (by kernel_rfl) (fun _ _ _ h => h) (by rfl) (fun w hSw => ?jG) hS ?vQ
     case jG =>
      (try dsimp only at hSw)
      go_simp
      try with_reducible rfl
     try simp only [Act.put, au, av, ax]
     refine af.take (i := 4) (v := ?vR) rfl (by kernel_rfl) (fun _ _ _ h => h) (by rfl) (fun w hSw => ?jH) hS ?vS
     case jH =>
      (try dsimp only at hSw)
      go_simp
      try with_reducible rfl
     try simp only [Act.put, au, av, ax]
     refine af.take (i := 5) (v := ?vT) rfl (by kernel_rfl) (fun _ _ _ h => h) (by rfl) (fun w hSw => ?jI) hS ?vU
     case jI =>
      (try dsimp only at hSw)
      go_simp
      try with_reducible rfl
     try simp only [Act.put, au, av, ax]
     refine af.take (i := 6) (v := ?zj) rfl (by kernel_rfl) (fun _ _ _ h => h) (by rfl) (fun w hSw => ?lM) hS ?zk
     case lM =>
      (try dsimp only at hSw)
      go_simp
      try with_reducible rfl
     try simp only [Act.put, au, av, ax]
     refine af.take (i := 7) (v := ?BW) rfl (by kernel_rfl) (fun _ _ _ h => h) (by rfl) (fun w hSw => ?nQ) hS ?BX
     case nQ =>
      (try dsimp only at hSw)
      go_simp
      try with_reducible rfl
     try simp only [Act.put, au, av, ax]
     refine af.take (i := 8) (v := ?MD) rfl (by kernel_rfl) (fun _ _ _ h => h) (by rfl) (fun w hSw => ?vV) hS ?ME
     case vV =>
      (try dsimp only at hSw)
      go_simp
      try with_reducible rfl
     try simp only [Act.put, au, av, ax]
     refine af.step (i := 9) rfl (by kernel_rfl) (fun K' hK => ?_)
     go_simp
     refine (gw.out _ (R8 wo)).mono ?_
     rintro e w3 ⟨P2, N2, rfl, Eu, hK3⟩
     obtain ⟨p2, c2, rfl, _, _⟩ := aB.open Eu.cR.ints
     obtain ⟨q2, e2, rfl, _, _⟩ := aB.open Eu.dF.strs
     have hfz := O5 Et.out hK3
     have K0 := hfz 0
     have uC := hfz 1
     have hw0 : w3.cell? ⟨tb, 0, none⟩ = some P' := (World.cell?_of_block (a := ⟨tb, 0, none⟩) (zi Et.out hK3)).trans Et.out.cells.1
     have hw1 : w3.cell? ⟨tb, 1, none⟩ = some N' := (World.cell?_of_block (a := ⟨tb, 1, none⟩) (zi Et.out hK3)).trans Et.out.cells.2.1
     have YD := aa (Et.out.put (u := T.app r (t.ps.length : Int)) (wt_gk Et.out hK3) (zi Et.out hK3) Eu)
     clear hfz Eu hK3
     refine hK.out _ _ (aJ (by kernel_rfl)) (fun hS => ?_)
     try simp only [au, av, ax]
     refine af.step (i := 10) rfl (by kernel_rfl) (fun K' hK => ?_)
     go_simp
     refine hK.out _ _ (aJ (by kernel_rfl)) (fun hS => ?_)
     refine af.done (by kernel_rfl) ?_
     go_wp2_with fail
     go_roundw
     case rel => exact ⟨j + 1, _, _, aV.out, by go_num, by rw [← HTS.out]; exact YD.out.1, HKJ.out.trans YD.out.2⟩
     case measure => have := aV.out; simp [intOf]; omega
    ·obtain rfl : j = ks.length := by omega
     have hcs := BS.out.cells
     have a0 := hcs.1
     have a1 := hcs.2.1
     have hrb : wo.heap[tb + 1]? = some (Obj.cells #[.slice none 0 0, .slice none 0 0] 39 (0, 0)) :=
      (BU.out.block (tb + 1) (by rw [ct.out]; omega) (by omega) (fun e => by have := HPB.out _ e.symm; omega) (fun e => by have := mV.out _ e.symm; omega)).trans lT.out
     obtain ⟨r0, r1, r2, r3⟩ : wo.cell? ⟨tb + 1, 0, none⟩ = some (.slice none 0 0) ∧ wo.cell? ⟨tb + 1, 1, none⟩ = some (.slice none 0 0) ∧ wo.frozen? ⟨tb + 1, 0, none⟩ = false ∧ wo.frozen? ⟨tb + 1, 1, none⟩ = false := by
      refine ⟨?_, ?_, ?_, ?_⟩ <;> simp [World.cell?, World.frozen?, hrb]
     have O9 := BS.out
     rw [List.take_length, Gk.out] at O9
     have YE := aa O9
     have G2 := aa BU.out
     obtain ⟨pq, wZ, rfl, _, _⟩ := aB.open O9.tl.cR.ints
     obtain ⟨nq, xd, rfl, _, _⟩ := aB.open O9.tl.dF.strs
     have HRBX := aa hrb
     clear hcs BS BU O9 hx hlt hj hrb
     go_wp2_with fail
     have cw : ∀ b, b ≠ tb + 1 → ((wo.setCell ⟨tb + 1, 0, none⟩ (.slice pq (t.app (.node nm ks) par).ps.length wZ)).setCell ⟨tb + 1, 1, none⟩ (.slice nq (t.app (.node nm ks) par).ns.length xd)).heap[b]? = wo.heap[b]? := fun b hb => by rw [blk_setCell_other _ _ _ _ hb, blk_setCell_other _ _ _ _ hb]
     have hheap : ((wo.setCell ⟨tb + 1, 0, none⟩ (.slice pq (t.app (.node nm ks) par).ps.length wZ)).setCell ⟨tb + 1, 1, none⟩ (.slice nq (t.app (.node nm ks) par).ns.length xd)).heap[tb + 1]? = some (Obj.cells #[.slice pq (t.app (.node nm ks) par).ps.length wZ, .slice nq (t.app (.node nm ks) par).ns.length xd] 39 (0, 0)) := by
      simp [World.setCell, Array.getElem?_modify, HRBX.out]
     have Yu : ((wo.setCell ⟨tb + 1, 0, none⟩ (.slice pq (t.app (.node nm ks) par).ps.length wZ)).setCell ⟨tb + 1, 1, none⟩ (.slice nq (t.app (.node nm ks) par).ns.length xd)).heap.size = wo.heap.size := by simp [World.size_setCell]
     have hos : ((wo.setCell ⟨tb + 1, 0, none⟩ (.slice pq (t.app (.node nm ks) par).ps.length wZ)).setCell ⟨tb + 1, 1, none⟩ (.slice nq (t.app (.node nm ks) par).ns.length xd)).os = wo.os ∧ ((wo.setCell ⟨tb + 1, 0, none⟩ (.slice pq (t.app (.node nm ks) par).ps.length wZ)).setCell ⟨tb + 1, 1, none⟩ (.slice nq (t.app (.node nm ks) par).ns.length xd)).tape = wo.tape ∧ ((wo.setCell ⟨tb + 1, 0, none⟩ (.slice pq (t.app (.node nm ks) par).ps.length wZ)).setCell ⟨tb + 1, 1, none⟩ (.slice nq (t.app (.node nm ks) par).ns.length xd)).output = wo.output := ⟨rfl, rfl, rfl⟩
     generalize (wo.setCell ⟨tb + 1, 0, none⟩ (.slice pq (t.app (.node nm ks) par).ps.length wZ)).setCell ⟨tb + 1, 1, none⟩ (.slice nq (t.app (.node nm ks) par).ns.length xd) = wf at *
     have ku : wf.cell? ⟨tb + 1, 0, none⟩ = some (.slice pq (t.app (.node nm ks) par).ps.length wZ) := by simp [World.cell?, hheap]
     have hr1 : wf.cell? ⟨tb + 1, 1, none⟩ = some (.slice nq (t.app (.node nm ks) par).ns.length xd) := by simp [World.cell?, hheap]
     refine ⟨rfl, .agg #[.slice pq (t.app (.node nm ks) par).ps.length wZ, .slice nq (t.app (.node nm ks) par).ns.length xd], by simp [results, Tryz.results253, go_sem, ku, hr1], ?_⟩
     have hs2 := ct.out
     have hnp : ∀ b, (Value.slice pq (t.app (.node nm ks) par).ps.length wZ).ownBlock = some b → (Value.slice pp t.ps.length pc).ownBlock = some b ∨ w2.heap.size ≤ b := G2.out.oL
     have hnn : ∀ b, (Value.slice nq (t.app (.node nm ks) par).ns.length xd).ownBlock = some b → (Value.slice np t.ns.length nc).ownBlock = some b ∨ w2.heap.size ≤ b := G2.out.oM
     have RP : ∀ b, (Value.slice pq (t.app (.node nm ks) par).ps.length wZ).ownBlock = some b → b ≠ tb + 1 := fun b hb => by
      rcases hnp b hb with h1 | h1
      ·have := HPB.out b h1; omega
      ·omega
     have CP : ∀ b, (Value.slice nq (t.app (.node nm ks) par).ns.length xd).ownBlock = some b → b ≠ tb + 1 := fun b hb => by
      rcases hnn b hb with h1 | h1
      ·have := mV.out b h1; omega
      ·omega
     have OD := G2.out.size
     refine ⟨_, _, rfl, ⟨YE.out.tl.cR.eD fun b hb => cw b (RP b hb), YE.out.tl.dF.eD fun b hb => cw b (CP b hb), YE.out.tl.apart⟩, hos.1.trans (G2.out.os.trans kC.out.os), hos.2.1.trans (G2.out.tape.trans kC.out.tape), hos.2.2.trans (G2.out.output.trans kC.out.output), by omega, fun b hb h1 h2 h3 => ?_, fun b hb => ?_, fun b hb => ?_⟩
     ·rw [cw b (by omega), G2.out.block b (by omega) (by omega) h2 h3]
      exact kC.out.block b hb
     ·rcases hnp b hb with h1 | h1
      ·exact .inl h1
      ·exact .inr (by omega)
     ·rcases hnn b hb with h1 | h1
      ·exact .inl h1
      ·exact .inr (by omega)
end Go.Proofs.YthgabkgmkolobaaGreat
