/- The contract of layer 31's reference's with and number. -/
import Derived.Test.YtpnmblnahjjmhaaGreatQ1
import Derived.Test.YtpnmblnahjjmhaaGreatQ14
import Derived.Test.YtpnmblnahjjmhaaGreatQ11
import Derived.Deep.CutRange
namespace Go.Proofs.YtpnmblnahjjmhaaGreat
set_option maxRecDepth 100000
open Go.RowKit Go.Deep
structure RW (tb B0 : Nat) (w W : World) (P N Pv Nv : Value) (ps : List Int) (ns : List ByteArray) : Prop where
 gk : GK tb w W P N Pv Nv
 tl : TL B0 W Pv Nv ps ns
 same : W.heap[tb]? = w.heap[tb]?
 lo : (tb < w.heap.size ∧ P.ownBlock ≠ some tb ∧ N.ownBlock ≠ some tb) ∧ B0 ≤ w.heap.size
section
variable {tb B0 : Nat} {w W W' : World} {P N Pv Nv : Value} {ps : List Int} {ns : List ByteArray}
theorem RW.start (h : TL B0 w P N ps ns) (hl : (tb < w.heap.size ∧ P.ownBlock ≠ some tb ∧ N.ownBlock ≠ some tb) ∧ B0 ≤ w.heap.size) : RW tb B0 w w P N P N ps ns := ⟨GK.refl _ _ _ _, h, rfl, hl⟩
theorem RW.notP (h : RW tb B0 w W P N Pv Nv ps ns) : Pv.ownBlock ≠ some tb := fun e => by
 rcases h.gk.gA tb e with h1 | h1
 ·exact h.lo.1.2.1 h1
 ·have := h.lo.1.1; omega
theorem RW.notN (h : RW tb B0 w W P N Pv Nv ps ns) : Nv.ownBlock ≠ some tb := fun e => by
 rcases h.gk.gB tb e with h1 | h1
 ·exact h.lo.1.2.2 h1
 ·have := h.lo.1.1; omega
theorem RW.up (h : RW tb B0 w W P N Pv Nv ps ns) (hu : Up W W') : RW tb B0 w W' P N Pv Nv ps ns :=
 ⟨h.gk.up hu, h.tl.up hu, (Below.block hu tb (by have := h.gk.size; have := h.lo.1.1; omega)).trans h.same, h.lo⟩
theorem RW.pI (h : RW tb B0 w W P N Pv Nv ps ns) {g cap k : Nat} {u : Int} (ho : ay B0 3 W' (.slice (some ⟨g, 0, none⟩) k cap) (ps.map (Value.int .i64) ++ [.int .i64 u])) (hg : W.grownBy W' Pv.ownBlock) (fC : Pv.ownBlock = some g ∨ W.heap.size ≤ g) :
  RW tb B0 w W' P N (.slice (some ⟨g, 0, none⟩) k cap) Nv (ps ++ [u]) ns := by
 have hlo := h.lo
 have hsz := h.gk.size
 have hnp := h.notP
 refine ⟨⟨hg.os.trans h.gk.os, hg.tape.trans h.gk.tape, hg.output.trans h.gk.output, Nat.le_trans hsz hg.size, fun b hb h1 h2 h3 => ?_, fun b hb => ?_, h.gk.gB⟩, ⟨by rw [List.map_append]; exact ho, h.tl.bW.ef fun b hb => hg.block b (aD h.tl.bW hb).2 (fun e => h.tl.apart b e.symm hb), fun b hb bK => ?_⟩, (hg.block tb (by have := hlo.1.1; omega) (fun e => hnp e.symm)).trans h.same, hlo⟩
 ·rw [← h.gk.block b hb h1 h2 h3]
  refine hg.block b (by omega) fun e => ?_
  rcases h.gk.gA b e.symm with h4 | h4
  ·exact h2 h4.symm
  ·omega
 ·injection hb with hb
  have hb : g = b := hb
  subst hb
  rcases fC with h4 | h4
  ·exact h.gk.gA g h4
  ·exact .inr (by omega)
 ·injection hb with hb
  have hb : g = b := hb
  subst hb
  rcases fC with h1 | h1
  ·exact h.tl.apart g h1 bK
  ·have := (aD h.tl.bW bK).2; omega
theorem RW.ou (h : RW tb B0 w W P N Pv Nv ps ns) {g cap k : Nat} {u : ByteArray} (ho : ay B0 9 W' (.slice (some ⟨g, 0, none⟩) k cap) (ns.map Value.string ++ [.string u])) (hg : W.grownBy W' Nv.ownBlock) (fC : Nv.ownBlock = some g ∨ W.heap.size ≤ g) :
  RW tb B0 w W' P N Pv (.slice (some ⟨g, 0, none⟩) k cap) ps (ns ++ [u]) := by
 have hlo := h.lo
 have hsz := h.gk.size
 have hnn := h.notN
 refine ⟨⟨hg.os.trans h.gk.os, hg.tape.trans h.gk.tape, hg.output.trans h.gk.output, Nat.le_trans hsz hg.size, fun b hb h1 h2 h3 => ?_, h.gk.gA, fun b hb => ?_⟩, ⟨h.tl.bJ.ef fun b hb => hg.block b (aD h.tl.bJ hb).2 (fun e => h.tl.apart b hb e.symm), by rw [List.map_append]; exact ho, fun b hb bK => ?_⟩, (hg.block tb (by have := hlo.1.1; omega) (fun e => hnn e.symm)).trans h.same, hlo⟩
 ·rw [← h.gk.block b hb h1 h2 h3]
  refine hg.block b (by omega) fun e => ?_
  rcases h.gk.gB b e.symm with h4 | h4
  ·exact h3 h4.symm
  ·omega
 ·injection hb with hb
  have hb : g = b := hb
  subst hb
  rcases fC with h4 | h4
  ·exact h.gk.gB g h4
  ·exact .inr (by omega)
 ·injection bK with bK
  have bK : g = b := bK
  subst bK
  rcases fC with h1 | h1
  ·exact h.tl.apart g hb h1
  ·have := (aD h.tl.bJ hb).2; omega
theorem RW.cells {P0 N0 : Value} (h : RW tb B0 w W P N Pv Nv ps ns) (hb : w.heap[tb]? = some (Obj.cells #[P0, N0] 39 (0, 0))) :
  W.cell? ⟨tb, 0, none⟩ = some P0 ∧ W.cell? ⟨tb, 1, none⟩ = some N0 := by
 have h1 := h.same.trans hb
 exact ⟨by simp [World.cell?, h1], by simp [World.cell?, h1]⟩
theorem RW.frozen {P0 N0 : Value} (h : RW tb B0 w W P N Pv Nv ps ns) (hb : w.heap[tb]? = some (Obj.cells #[P0, N0] 39 (0, 0))) (o : Nat) : W.frozen? ⟨tb, o, none⟩ = false := by
 have h1 := h.same.trans hb
 simp [World.frozen?, h1]
end
structure GW (tb B0 : Nat) (W : World) (P N : Value) (t : aJ) : Prop where
 box : W.heap[tb]? = some (Obj.cells #[P, N] 39 (0, 0))
 tl : TL B0 W P N t.ps t.ns
 lo : (P.ownBlock ≠ some tb ∧ N.ownBlock ≠ some tb) ∧ B0 ≤ W.heap.size
theorem GW.lt {tb B0 : Nat} {W : World} {P N : Value} {t : aJ} (h : GW tb B0 W P N t) : tb < W.heap.size := (Array.getElem?_eq_some_iff.1 h.box).1
theorem GW.cells {tb B0 : Nat} {W : World} {P N : Value} {t : aJ} (h : GW tb B0 W P N t) : W.cell? ⟨tb, 0, none⟩ = some P ∧ W.cell? ⟨tb, 1, none⟩ = some N ∧ W.frozen? ⟨tb, 0, none⟩ = false ∧ W.frozen? ⟨tb, 1, none⟩ = false := by
 refine ⟨?_, ?_, ?_, ?_⟩ <;> simp [World.cell?, World.frozen?, h.box]
theorem GW.up {tb B0 : Nat} {W W' : World} {P N : Value} {t : aJ} (h : GW tb B0 W P N t) (hu : Up W W') : GW tb B0 W' P N t :=
 ⟨(Below.block hu tb h.lt).trans h.box, h.tl.up hu, h.lo.1, Nat.le_trans h.lo.2 hu.size⟩
theorem GW.put {tb B0 : Nat} {W X : World} {P N P' N' : Value} {t u : aJ} (h : GW tb B0 W P N t) (hk : GK tb W X P N P' N') (hs : X.heap[tb]? = W.heap[tb]?) (ht : TL B0 X P' N' u.ps u.ns) :
  GW tb B0 ((X.setCell ⟨tb, 0, none⟩ P').setCell ⟨tb, 1, none⟩ N') P' N' u ∧ GK tb W ((X.setCell ⟨tb, 0, none⟩ P').setCell ⟨tb, 1, none⟩ N') P N P' N' := by
 have h1 := hs.trans h.box
 have hl := h.lt
 have hp : P'.ownBlock ≠ some tb := fun e => by
  rcases hk.gA tb e with h2 | h2
  ·exact h.lo.1.1 h2
  ·omega
 have hn : N'.ownBlock ≠ some tb := fun e => by
  rcases hk.gB tb e with h2 | h2
  ·exact h.lo.1.2 h2
  ·omega
 have cg : ∀ b, b ≠ tb → ((X.setCell ⟨tb, 0, none⟩ P').setCell ⟨tb, 1, none⟩ N').heap[b]? = X.heap[b]? := fun b hb => by rw [blk_setCell_other _ _ _ _ hb, blk_setCell_other _ _ _ _ hb]
 have hsz : ((X.setCell ⟨tb, 0, none⟩ P').setCell ⟨tb, 1, none⟩ N').heap.size = X.heap.size := by simp [World.size_setCell]
 refine ⟨⟨by simp [World.setCell, Array.getElem?_modify, h1], ⟨ht.bJ.ef fun b hb => cg b (fun e => hp (by rw [hb, e])), ht.bW.ef fun b hb => cg b (fun e => hn (by rw [hb, e])), ht.apart⟩, ⟨hp, hn⟩, by rw [hsz]; exact Nat.le_trans h.lo.2 hk.size⟩, hk.os, hk.tape, hk.output, by rw [hsz]; exact hk.size, fun b hb h2 h3 h4 => (cg b h2).trans (hk.block b hb h2 h3 h4), hk.gA, hk.gB⟩
theorem RW.store {tb B0 : Nat} {w W : World} {P N Pv Nv : Value} {t : aJ} {z : Int} {nm : ByteArray} (h0 : GW tb B0 w P N t) (h : RW tb B0 w W P N Pv Nv (t.ps ++ [z]) (t.ns ++ [nm])) :
  GW tb B0 ((W.setCell ⟨tb, 0, none⟩ Pv).setCell ⟨tb, 1, none⟩ Nv) Pv Nv (t.push z nm) ∧ GK tb w ((W.setCell ⟨tb, 0, none⟩ Pv).setCell ⟨tb, 1, none⟩ Nv) P N Pv Nv := h0.put h.gk h.same h.tl
theorem GK.BF {tb : Nat} {w W : World} {P N P' N' : Value} (h : GK tb w W P N P' N') {S : Nat → Prop} (hS : ∀ b, S b → b < w.heap.size → b ≠ tb ∧ P.ownBlock ≠ some b ∧ N.ownBlock ≠ some b) : Kept S w W := fun b hb hl => by
 obtain ⟨h1, h2, h3⟩ := hS b hb hl
 exact h.block b hl h1 (fun e => h2 e.symm) (fun e => h3 e.symm)
def xZ (B0 : Nat) (w : World) (P N : Value) (t : aJ) (r : RT) (par : Int) (e : Ending) (w' : World) : Prop :=
 ∃ P' N', e = .returned (.agg #[P', N']) ∧ TL B0 w' P' N' (t.app r par).ps (t.app r par).ns ∧ GK w.heap.size w w' P N P' N'
theorem Ay (t : aJ) (nm : ByteArray) (ks : List RT) (par : Int) : (t.push par nm).apps ks t.ps.length = t.app (.node nm ks) par := by
 unfold aJ.apps aJ.app aJ.push
 rw [psR, cT]
 simp
theorem RN (t : aJ) (ks : List RT) {j : Nat} (h : j < ks.length) (own : Nat) : (t.apps (ks.take j) own).app (gr ks j) (own : Int) = t.apps (ks.take (j + 1)) own := by
 have hg : gr ks j = ks[j] := by simp [gr, h]
 rw [Aw, hg, List.take_succ_eq_append_getElem h]
theorem Mf (ks : List RT) {j : Nat} (h : j < ks.length) : sizeRs (ks.take j) + aS (gr ks j) ≤ sizeRs ks := by
 induction ks xW j with
 | nil => simp at h
 | cons k ks ih =>
  cases j with
  | zero => rw [List.take_zero, sizeRs, sizeRs]; show _ + aS k ≤ _; omega
  | succ j =>
   have := ih (j := j) (by simpa using h)
   rw [List.take_succ_cons, sizeRs, sizeRs]
   show _ + aS (gr ks j) ≤ _
   omega
theorem Az (w : World) : Up w w.drew := Up.drewN w 1
theorem kJ {tb B0 : Nat} {wo w3 : World} {P N P2 N2 : Value} {T : aJ} (h : GW tb B0 wo P N T) (hk : GK wo.drew.heap.size wo.drew w3 P N P2 N2) : w3.heap[tb]? = wo.heap[tb]? := by
 have hl := h.lt
 exact hk.block tb hl (fun e => by have : tb = wo.heap.size := e; omega) (fun e => h.lo.1.1 e.symm) (fun e => h.lo.1.2 e.symm)
theorem x4 {tb B0 : Nat} {wo w3 : World} {P N P2 N2 : Value} {T : aJ} (h : GW tb B0 wo P N T) (hk : GK wo.drew.heap.size wo.drew w3 P N P2 N2) (o : Nat) : w3.frozen? ⟨tb, o, none⟩ = false := by
 have h1 := (kJ h hk).trans h.box
 simp [World.frozen?, h1]
theorem Mg {tb B0 : Nat} {wo w3 : World} {P N P2 N2 : Value} {T : aJ} (_ : GW tb B0 wo P N T) (hk : GK wo.drew.heap.size wo.drew w3 P N P2 N2) : GK tb wo w3 P N P2 N2 :=
 ⟨hk.os, hk.tape, hk.output, hk.size, fun b hb _ h2 h3 => hk.block b hb (fun e => by have : b = wo.heap.size := e; omega) h2 h3, hk.gA, hk.gB⟩
set_option maxHeartbeats 4000000 in
theorem Xe (B0 : Nat) : ∀ (d : Nat) (r : RT), aS r ≤ d → ∀ (w : World) (P N v : Value) (t : aJ) (par : Int), TL B0 w P N t.ps t.ns → B0 ≤ w.heap.size → t.ns.length = t.ps.length → t.ps.length + aS r ≤ 100000 →
  RAt (fun b => P.ownBlock ≠ some b ∧ N.ownBlock ≠ some b) w r v → Calls Tryz.prog 241 #[.agg #[P, N], v, .int .i64 par] w (xZ B0 w P N t r par) := by
 intro d
 induction d with
 | zero => intro r hr; have := jX r; omega
 | succ d ih =>
 intro r hr w P N v t par uY hB0 hnl hbd hv
 cases r with
 | node nm ks =>
  obtain ⟨xb, kp, kc, vs, rfl, hS, c0, c1, hk, hs⟩ := hv.open
  simp only [RT.nm, RT.kids] at c0 c1 hk hs
  have iO := qX ks
  rw [aS] at hr hbd
  obtain ⟨pp, pc, rfl, _, _⟩ := aC.open uY.bJ.ints
  obtain ⟨np, nc, rfl, _, _⟩ := aC.open uY.bW.strs
  have k7 := ag ih
  have qu := ag hnl
  have Gk := Up.alloc w (.cells #[.slice pp t.ps.length pc, .slice np t.ns.length nc] 39)
  have dY := Gk.trans (Up.alloc _ (.cells #[.slice none 0 0, .slice none 0 0] 39))
  have hsz : ((w.alloc (.cells #[.slice pp t.ps.length pc, .slice np t.ns.length nc] 39)).alloc (.cells #[.slice none 0 0, .slice none 0 0] 39)).heap.size = w.heap.size + 2 := by simp
  have cB : ((w.alloc (.cells #[.slice pp t.ps.length pc, .slice np t.ns.length nc] 39)).alloc (.cells #[.slice none 0 0, .slice none 0 0] 39)).heap[w.heap.size]? = some (Obj.cells #[.slice pp t.ps.length pc, .slice np t.ns.length nc] 39 (0, 0)) :=
   (Below.block (Up.alloc (w.alloc (.cells #[.slice pp t.ps.length pc, .slice np t.ns.length nc] 39)) _) w.heap.size (by rw [World.size_alloc]; omega)).trans (World.alloc_heap_new _ _)
  have hrb := lu (w := w.alloc (.cells #[.slice pp t.ps.length pc, .slice np t.ns.length nc] 39)) (P := .slice none 0 0) (N := .slice none 0 0) (T := 39)
  rw [World.size_alloc] at hrb
  have hpl : ∀ b, (Value.slice pp t.ps.length pc).ownBlock = some b → b < w.heap.size := fun b hb => (aD uY.bJ hb).2
  have uh : ∀ b, (Value.slice np t.ns.length nc).ownBlock = some b → b < w.heap.size := fun b hb => (aD uY.bW hb).2
  have HG : Hid (GW w.heap.size B0 ((w.alloc (.cells #[.slice pp t.ps.length pc, .slice np t.ns.length nc] 39)).alloc (.cells #[.slice none 0 0, .slice none 0 0] 39)) (.slice pp t.ps.length pc) (.slice np t.ns.length nc) t) :=
   ⟨cB, uY.up dY, ⟨fun e => by have := hpl _ e; omega, fun e => by have := uh _ e; omega⟩, by omega⟩
  have iZ := ag (dY.cell c0)
  have eH := ag (dY.cell c1)
  have hxl : xb < w.heap.size := World.block_lt_of_cell? w _ c0
  have OJ : Hid (aC (fun b => b < w.heap.size ∧ (Value.slice pp t.ps.length pc).ownBlock ≠ some b ∧ (Value.slice np t.ns.length nc).ownBlock ≠ some b) ((w.alloc (.cells #[.slice pp t.ps.length pc, .slice np t.ns.length nc] 39)).alloc (.cells #[.slice none 0 0, .slice none 0 0] 39)) (.slice kp ks.length kc) ks.length (vN vs)) :=
   (hk.sub (T := fun b => b < w.heap.size ∧ (Value.slice pp t.ps.length pc).ownBlock ≠ some b ∧ (Value.slice np t.ns.length nc).ownBlock ≠ some b) fun b hb hl => ⟨hl, hb⟩).keep (dY.kept _)
  have HRS : Hid (RsAt (fun b => b < w.heap.size ∧ (Value.slice pp t.ps.length pc).ownBlock ≠ some b ∧ (Value.slice np t.ns.length nc).ownBlock ≠ some b) ((w.alloc (.cells #[.slice pp t.ps.length pc, .slice np t.ns.length nc] 39)).alloc (.cells #[.slice none 0 0, .slice none 0 0] 39)) ks vs) :=
   RsAt.keep (dY.kept _) ks (RsAt.sub (fun b hb hl => ⟨hl, hb⟩) ks hs)
  have gQ := ag hrb
  have dG := ag hsz
  have iD := ag dY
  have HS := ag hS
  have x5 := ag hpl
  have mO := ag uh
  have jk := ag hbd
  have FG := ag (Ay t nm ks par)
  have kZ := ag iO
  have HR := ag hr
  have AA := HG.out.cells.1
  clear ih hv Gk dY cB hrb hpl uh uY hk hs hnl c0 c1 hS hbd iO hr
  aq Tryz.func241, Tryz.ntmps241
  aa fail
  clear AA
  generalize (w.alloc (.cells #[.slice pp t.ps.length pc, .slice np t.ns.length nc] 39)).alloc (.cells #[.slice none 0 0, .slice none 0 0] 39) = w2 at *
  generalize htb : w.heap.size = tb at *
  have lE : Hid (∀ (W : World) (P' N' : Value), GK tb w2 W (.slice pp t.ps.length pc) (.slice np t.ns.length nc) P' N' → W.cell? ⟨xb, 0, none⟩ = some (.string nm) ∧ W.cell? ⟨xb, 1, none⟩ = some (.slice kp ks.length kc)) := fun W P' N' hk => by
   have h1 := hk.block xb (by rw [dG.out]; omega) (by omega) (fun e => HS.out.1 e.symm) (fun e => HS.out.2 e.symm)
   exact ⟨(World.cell?_of_block (a := ⟨xb, 0, none⟩) h1).trans iZ.out, (World.cell?_of_block (a := ⟨xb, 1, none⟩) h1).trans eH.out⟩
  OK [] from 12 to 26 (fun wx => ∃ P' N', GW tb B0 wx P' N' (t.push par nm) ∧ GK tb w2 wx (.slice pp t.ps.length pc) (.slice np t.ns.length nc) P' N')
  case first =>
   have hd := Up.drewN w2 1
   have zQ := ag HG.out
   have cU := ag HG.out.box
   have tv : Hid (RW tb B0 w2 w2.drew (.slice pp t.ps.length pc) (.slice np t.ns.length nc) (.slice pp t.ps.length pc) (.slice np t.ns.length nc) t.ps t.ns) := (RW.start HG.out.tl ⟨⟨HG.out.lt, HG.out.lo.1⟩, HG.out.lo.2⟩).up hd
   have ew : Hid (t.ps.length ≤ 1000000 ∧ t.ns.length ≤ 1000000) := by have := jk.out; have := qu.out; unfold Hid; omega
   have gY : Hid (∀ {W : World} {P' N' : Value} {ps' : List Int} {ns' : List ByteArray}, RW tb B0 w2 W (.slice pp t.ps.length pc) (.slice np t.ns.length nc) P' N' ps' ns' → W.cell? ⟨tb, 0, none⟩ = some (.slice pp t.ps.length pc) ∧ W.cell? ⟨tb, 1, none⟩ = some (.slice np t.ns.length nc) ∧ W.cell? ⟨xb, 0, none⟩ = some (.string nm)) :=
    fun h => ⟨(h.cells cU.out).1, (h.cells cU.out).2, (lE.out _ _ _ h.gk).1⟩
   refine eE (by af) 13 (fun w' => w'.cell? ⟨tb, 0, none⟩ = some (.slice pp t.ps.length pc) ∧ w'.cell? ⟨tb, 1, none⟩ = some (.slice np t.ns.length nc) ∧ w'.cell? ⟨xb, 0, none⟩ = some (.string nm)) (gY.out tv.out) (fun hS => ?_)
   simp only [List.size_toArray, List.length_cons, List.length_nil, Nat.reduceAdd, Array.replicate_succ, Array.replicate_zero, List.push_toArray, List.nil_append, List.cons_append]
   generalize w2.drew = Wd at *
   refine au.take (i := 0) (v := ?DB) rfl (by af) (fun _ _ _ h => h) (by rfl) (fun w av => ?qm) hS ?DC
   case qm =>
    (try dsimp only at av)
    aj
    try ah rfl
   try simp only [Act.put, az, aA, aB]
   refine au.take (i := 1) (v := ?DD) rfl (by af) (fun _ _ _ h => h) (by rfl) (fun w av => ?qn) hS ?DE
   case qn =>
    (try dsimp only at av)
    aj
    try ah rfl
   try simp only [Act.put, az, aA, aB]
   refine au.take (i := 2) (v := ?DF) rfl (by af) (fun _ _ _ h => h) (by rfl) (fun w av => ?qq) hS ?DG
   case qq =>
    (try dsimp only at av)
    aj
    try ah rfl
   try simp only [Act.put, az, aA, aB]
   refine au.take (i := 5) (v := ?J2) rfl (by af) (fun _ _ _ h => h) (by rfl) (fun w av => ?uI) hS ?J3
   case uI =>
    (try dsimp only at av)
    aj
    try ah rfl
   try simp only [Act.put, az, aA, aB]
   refine au.take (i := 6) (v := ?Oa) rfl (by af) (fun _ _ _ h => h) (by rfl) (fun w av => ?xJ) hS ?Ob
   case xJ =>
    (try dsimp only at av)
    aj
    try ah rfl
   try simp only [Act.put, az, aA, aB]
   refine au.take (i := 7) (v := ?J4) rfl (by af) (fun _ _ _ h => h) (by rfl) (fun w av => ?uJ) hS ?J5
   case uJ =>
    (try dsimp only at av)
    aj
    try ah rfl
   try simp only [Act.put, az, aA, aB]
   refine au.take (i := 8) (v := ?T4) rfl (by af) (fun _ _ _ h => h) (by rfl) (fun w av => ?Bk) hS ?T5
   case Bk =>
    (try dsimp only at av)
    aj
    try ah rfl
   try simp only [Act.put, az, aA, aB]
   refine au.take (i := 9) (v := ?T6) rfl (by af) (fun _ _ _ h => h) (by rfl) (fun w av => ?Bl) hS ?T7
   case Bl =>
    (try dsimp only at av)
    aj
    try ah rfl
   try simp only [Act.put, az, aA, aB]
   refine au.take (i := 10) (v := ?Rm) rfl (by af) (fun _ _ _ h => h) (by rfl) (fun w av => ?Am) hS ?Rn
   case Am =>
    (try dsimp only at av)
    aj
    try ah rfl
   try simp only [Act.put, az, aA, aB]
   refine au.vv (i := 3) (i2 := 11) rfl rfl (by af) (fun K' hK => ?_) (fun K' hK => ?_)
   ·aj
    have kE : Hid (RW tb B0 _ (Wd.alloc (.cells #[.int .i64 par] 3)) _ _ _ _ _ _) := tv.out.up (Up.alloc _ _)
    refine hK.out _ _ (fun _ => gY.out kE.out) (fun _ => ?_)
    try simp only [az, aA, aB]
    refine au.vv (i := 4) (i2 := 11) rfl rfl (by af) (fun K' hK => ?_) (fun K' hK => ?_)
    ·refine dK (by rfl) _ _ _ (by rfl) B0 3 _ 8 Tryz.underlying26 Tryz.gH (by rfl) (by decide) (by rfl) kE.out.tl.bJ (.int .i64 par) Wd.heap.size (by rfl) (bI Wd #[.int .i64 par] 3 0) (by rfl) (by rw [List.length_map]; exact ew.out.1) (Nat.le_trans kE.out.lo.2 kE.out.gk.size) ?_
     intro g1 DU gD lg gP lq _
     have iQ : Hid (RW tb B0 _ gD _ _ _ _ _ _) := kE.out.pI lg gP (lq.imp id (fun e => Nat.le_of_eq e.symm))
     refine hK.out _ _ (fun _ => gY.out iQ.out) (fun _ => ?_)
     try simp only [Act.put, az, aA, aB]
     refine au.free (i := 13) (v := ?gv13a) rfl (by af) (fun _ _ _ h => h) (by rfl) (fun w => ?gy13a) (fun _ => gY.out iQ.out) ?gr13a
     case gy13a =>
      aj
      try ah rfl
     try simp only [Act.put, az, aA, aB]
     refine au.step (i := 11) rfl (by af) (fun K' hK => ?_)
     aj
     have fT : Hid (RW tb B0 _ (gD.alloc (.cells #[.string nm] 9)) _ _ _ _ _ _) := iQ.out.up (Up.alloc _ _)
     refine hK.out _ _ (fun _ => gY.out fT.out) (fun _ => ?_)
     try simp only [az, aA, aB]
     refine au.step (i := 12) rfl (by af) (fun K' hK => ?_)
     refine dK (by rfl) _ _ _ (by rfl) B0 9 _ 16 Tryz.underlying22 Tryz.lC (by rfl) (by decide) (by rfl) fT.out.tl.bW (.string nm) gD.heap.size (by rfl) (bI gD #[.string nm] 9 0) (by rfl) (by rw [List.length_map]; exact ew.out.2) (Nat.le_trans fT.out.lo.2 fT.out.gk.size) ?_
     intro g2 zK eC ki jb kj _
     have fe : Hid (RW tb B0 _ eC _ _ _ _ _ _) := fT.out.ou ki jb (kj.imp id (fun e => Nat.le_of_eq e.symm))
     refine hK.out _ _ (fun _ => gY.out fe.out) (fun _ => ?_)
     try simp only [Act.put, az, aA, aB]
     obtain ⟨tn, dS⟩ := fe.out.cells cU.out
     have zL := fe.out.frozen cU.out 0
     have ug := fe.out.frozen cU.out 1
     have fR := ag (fe.out.store zQ.out)
     refine au.step (i := 14) rfl (by af) (fun K' hK => ?_)
     aj
     refine hK.out _ _ (bh (by af)) (fun _ => ?_)
     try simp only [az, aA, aB]
     refine au.free (i := 15) (v := ?gv15a) rfl (by af) (fun _ _ _ h => h) (by rfl) (fun w => ?LZ) (bh (by af)) ?gr15a
     case LZ =>
      aj
      try ah rfl
     try simp only [Act.put, az, aA, aB]
     refine au.step (i := 16) rfl (by af) (fun K' hK => ?_)
     aj
     refine hK.out _ _ (bh (by af)) (fun _ => ?_)
     refine au.done (by af) ?_
     aa fail
     kK
     case rel =>
      have dx := fR.out
      simp only [List.length_map] at dx
      exact ⟨_, _, dx.1, dx.2⟩
    ·aj
     have iQ : Hid (RW tb B0 _ ((Wd.alloc (.cells #[.int .i64 par] 3)).alloc (.cells #[.string nm] 9)) _ _ _ _ _ _) := kE.out.up (Up.alloc _ _)
     refine hK.out _ _ (fun _ => gY.out iQ.out) (fun _ => ?_)
     try simp only [az, aA, aB]
     have o4 := bI (Wd.alloc (.cells #[.int .i64 par] 3)) #[.string nm] 9 0
     have nJ := (Up.alloc (Wd.alloc (.cells #[.int .i64 par] 3)) (.cells #[.string nm] 9)).cell (bI Wd #[.int .i64 par] 3 0)
     rw [World.size_alloc] at o4
     refine au.step (i := 4) rfl (by af) (fun K' hK => ?_)
     refine dK (by rfl) _ _ _ (by rfl) B0 3 _ 8 Tryz.underlying26 Tryz.gH (by rfl) (by decide) (by rfl) iQ.out.tl.bJ (.int .i64 par) Wd.heap.size (by rfl) nJ (by rfl) (by rw [List.length_map]; exact ew.out.1) (Nat.le_trans iQ.out.lo.2 iQ.out.gk.size) ?_
     intro g1 DU gD lg gP lq _
     have fT : Hid (RW tb B0 _ gD _ _ _ _ _ _) := iQ.out.pI lg gP (lq.imp id (fun e => Nat.le_of_eq e.symm))
     have r9 : gD.cell? ⟨Wd.heap.size + 1, 0, none⟩ = some (.string nm) := by
      rw [gP.cell_far ⟨Wd.heap.size + 1, 0, none⟩ (by simp) (fun e => absurd (aD tv.out.tl.bJ e.symm).2 (by show ¬ (Wd.heap.size + 1 < Wd.heap.size); omega))]; exact o4
     refine hK.out _ _ (fun _ => gY.out fT.out) (fun _ => ?_)
     try simp only [Act.put, az, aA, aB]
     refine au.free (i := 13) (v := ?gv13b) rfl (by af) (fun _ _ _ h => h) (by rfl) (fun w => ?gy13b) (fun _ => gY.out fT.out) ?gr13b
     case gy13b =>
      aj
      try ah rfl
     try simp only [Act.put, az, aA, aB]
     refine au.step (i := 12) rfl (by af) (fun K' hK => ?_)
     refine dK (by rfl) _ _ _ (by rfl) B0 9 _ 16 Tryz.underlying22 Tryz.lC (by rfl) (by decide) (by rfl) fT.out.tl.bW (.string nm) (Wd.heap.size + 1) (by rfl) r9 (by rfl) (by rw [List.length_map]; exact ew.out.2) (Nat.le_trans fT.out.lo.2 fT.out.gk.size) ?_
     intro g2 zK eC ki jb kj _
     have fe : Hid (RW tb B0 _ eC _ _ _ _ _ _) := fT.out.ou ki jb (kj.imp id (fun e => Nat.le_of_eq e.symm))
     refine hK.out _ _ (fun _ => gY.out fe.out) (fun _ => ?_)
     try simp only [Act.put, az, aA, aB]
     obtain ⟨tn, dS⟩ := fe.out.cells cU.out
     have zL := fe.out.frozen cU.out 0
     have ug := fe.out.frozen cU.out 1
     have fR := ag (fe.out.store zQ.out)
     refine au.step (i := 14) rfl (by af) (fun K' hK => ?_)
     aj
     refine hK.out _ _ (bh (by af)) (fun _ => ?_)
     try simp only [az, aA, aB]
     refine au.free (i := 15) (v := ?gv15b) rfl (by af) (fun _ _ _ h => h) (by rfl) (fun w => ?L3) (bh (by af)) ?gr15b
     case L3 =>
      aj
      try ah rfl
     try simp only [Act.put, az, aA, aB]
     refine au.step (i := 16) rfl (by af) (fun K' hK => ?_)
     aj
     refine hK.out _ _ (bh (by af)) (fun _ => ?_)
     refine au.done (by af) ?_
     aa fail
     kK
     case rel =>
      have dx := fR.out
      simp only [List.length_map] at dx
      exact ⟨_, _, dx.1, dx.2⟩
   ·aj
    have kE : Hid (RW tb B0 _ (Wd.alloc (.cells #[.string nm] 9)) _ _ _ _ _ _) := tv.out.up (Up.alloc _ _)
    refine hK.out _ _ (fun _ => gY.out kE.out) (fun _ => ?_)
    try simp only [az, aA, aB]
    refine au.step (i := 3) rfl (by af) (fun K' hK => ?_)
    aj
    have iQ : Hid (RW tb B0 _ ((Wd.alloc (.cells #[.string nm] 9)).alloc (.cells #[.int .i64 par] 3)) _ _ _ _ _ _) := kE.out.up (Up.alloc _ _)
    refine hK.out _ _ (fun _ => gY.out iQ.out) (fun _ => ?_)
    try simp only [az, aA, aB]
    have nJ := bI (Wd.alloc (.cells #[.string nm] 9)) #[.int .i64 par] 3 0
    have o4 := (Up.alloc (Wd.alloc (.cells #[.string nm] 9)) (.cells #[.int .i64 par] 3)).cell (bI Wd #[.string nm] 9 0)
    rw [World.size_alloc] at nJ
    refine au.step (i := 4) rfl (by af) (fun K' hK => ?_)
    refine dK (by rfl) _ _ _ (by rfl) B0 3 _ 8 Tryz.underlying26 Tryz.gH (by rfl) (by decide) (by rfl) iQ.out.tl.bJ (.int .i64 par) (Wd.heap.size + 1) (by rfl) nJ (by rfl) (by rw [List.length_map]; exact ew.out.1) (Nat.le_trans iQ.out.lo.2 iQ.out.gk.size) ?_
    intro g1 DU gD lg gP lq _
    have fT : Hid (RW tb B0 _ gD _ _ _ _ _ _) := iQ.out.pI lg gP (lq.imp id (fun e => Nat.le_of_eq e.symm))
    have r9 : gD.cell? ⟨Wd.heap.size, 0, none⟩ = some (.string nm) := by
     rw [gP.cell_far ⟨Wd.heap.size, 0, none⟩ (by simp; omega) (fun e => absurd (aD tv.out.tl.bJ e.symm).2 (by show ¬ (Wd.heap.size < Wd.heap.size); omega))]; exact o4
    refine hK.out _ _ (fun _ => gY.out fT.out) (fun _ => ?_)
    try simp only [Act.put, az, aA, aB]
    refine au.free (i := 13) (v := ?gv13c) rfl (by af) (fun _ _ _ h => h) (by rfl) (fun w => ?gy13c) (fun _ => gY.out fT.out) ?gr13c
    case gy13c =>
     aj
     try ah rfl
    try simp only [Act.put, az, aA, aB]
    refine au.step (i := 12) rfl (by af) (fun K' hK => ?_)
    refine dK (by rfl) _ _ _ (by rfl) B0 9 _ 16 Tryz.underlying22 Tryz.lC (by rfl) (by decide) (by rfl) fT.out.tl.bW (.string nm) Wd.heap.size (by rfl) r9 (by rfl) (by rw [List.length_map]; exact ew.out.2) (Nat.le_trans fT.out.lo.2 fT.out.gk.size) ?_
    intro g2 zK eC ki jb kj _
    have fe : Hid (RW tb B0 _ eC _ _ _ _ _ _) := fT.out.ou ki jb (kj.imp id (fun e => Nat.le_of_eq e.symm))
    refine hK.out _ _ (fun _ => gY.out fe.out) (fun _ => ?_)
    try simp only [Act.put, az, aA, aB]
    obtain ⟨tn, dS⟩ := fe.out.cells cU.out
    have zL := fe.out.frozen cU.out 0
    have ug := fe.out.frozen cU.out 1
    have fR := ag (fe.out.store zQ.out)
    refine au.step (i := 14) rfl (by af) (fun K' hK => ?_)
    aj
    refine hK.out _ _ (bh (by af)) (fun _ => ?_)
    try simp only [az, aA, aB]
    refine au.free (i := 15) (v := ?gv15c) rfl (by af) (fun _ _ _ h => h) (by rfl) (fun w => ?L7) (bh (by af)) ?gr15c
    case L7 =>
     aj
     try ah rfl
    try simp only [Act.put, az, aA, aB]
    refine au.step (i := 16) rfl (by af) (fun K' hK => ?_)
    aj
    refine hK.out _ _ (bh (by af)) (fun _ => ?_)
    refine au.done (by af) ?_
    aa fail
    kK
    case rel =>
     have dx := fR.out
     simp only [List.length_map] at dx
     exact ⟨_, _, dx.1, dx.2⟩
  case rest =>
   obtain ⟨P1, N1, Gl, wM⟩ := Xf
   have HG1 := ag Gl
   have xL := ag wM
   have Uj : Hid ((t.push par nm).apps (ks.take 0) t.ps.length = t.push par nm) := Av _ _
   clear Gl wM
   aa fail
   aV [8] (fun i wr => ∃ (j : Nat) (P' N' : Value), j ≤ ks.length ∧ i = .int .i64 j ∧ Hid (GW tb B0 wr P' N' ((t.push par nm).apps (ks.take j) t.ps.length)) ∧ Hid (GK tb w2 wr (.slice pp t.ps.length pc) (.slice np t.ns.length nc) P' N')) (fun i _ => ks.length - (intOf i).toNat)
   case atStart => exact ⟨0, P1, N1, Nat.zero_le _, rfl, by rw [Uj.out]; exact HG1.out, xL.out⟩
   case round =>
    obtain ⟨j, P', N', hj, rfl, BG, BH⟩ := bE
    obtain ⟨wo, rfl⟩ : ∃ wo : World, wo = wr := ⟨_, rfl⟩
    have hx := lE.out _ _ _ BH.out
    have hx1 := hx.2
    by_cases hlt : j < ks.length
    ·have hcs := BG.out.cells
     have hkr : Kept (fun b => b < tb ∧ (Value.slice pp t.ps.length pc).ownBlock ≠ some b ∧ (Value.slice np t.ns.length nc).ownBlock ≠ some b) w2 wo := BH.out.BF fun b hb _ => ⟨by omega, hb.2⟩
     obtain ⟨kb, ko, rfl, hkc⟩ := qt (OJ.out.keep hkr) hlt
     have oC := RAt.keep hkr _ (RsAt.get ks HRS.out j hlt)
     have Xg : RAt (fun b => P'.ownBlock ≠ some b ∧ N'.ownBlock ≠ some b) wo (gr ks j) (vN vs j) := RAt.sub (fun b hb hl => ⟨fun e => by
      rcases BH.out.gA b e with h1 | h1
      ·exact hb.2.1 h1
      ·have := hb.1; have := dG.out; omega, fun e => by
      rcases BH.out.gB b e with h1 | h1
      ·exact hb.2.2 h1
      ·have := hb.1; have := dG.out; omega⟩) _ oC
     have hgs := uW hlt
     obtain ⟨T, hT⟩ : ∃ T, T = (t.push par nm).apps (ks.take j) t.ps.length := ⟨_, rfl⟩
     have OL : Hid (T.app (gr ks j) (t.ps.length : Int) = (t.push par nm).apps (ks.take (j + 1)) t.ps.length) := by rw [hT]; exact RN _ _ hlt _
     have htl : T.ps.length = t.ps.length + 1 + sizeRs (ks.take j) ∧ T.ns.length = t.ns.length + 1 + sizeRs (ks.take j) := by
      rw [hT]; unfold aJ.apps aJ.push
      simp only [List.length_append, List.length_cons, List.length_nil, lB, sk]
      exact ⟨trivial, trivial⟩
     have CV := Mf ks hlt
     rw [← hT] at BG
     have eM : Hid (∀ W, Up wo W → Calls Tryz.prog 241 #[.agg #[P', N'], vN vs j, .int .i64 (t.ps.length : Nat)] W (xZ B0 W P' N' T (gr ks j) (t.ps.length : Nat))) := fun W hW =>
      k7.out (gr ks j) (by have := HR.out; omega) W P' N' (vN vs j) T _ (BG.out.tl.up hW) (Nat.le_trans BG.out.lo.2 hW.size) (by have := qu.out; omega) (by have := jk.out; omega) (RAt.keep (hW.kept _) _ Xg)
     have D2 := ag BG.out
     have HKJ := ag BH.out
     have i1 : (0 : Int) ≤ (j : Int) := by omega
     have i2 : (j : Int) < (ks.length : Int) := by omega
     have i3 : (j : Int) < 1000000 := by have := kZ.out; have := jk.out; omega
     have aU := ag hlt
     have a0 := hcs.1
     have a1 := hcs.2.1
     clear hT htl hgs oC Xg hkr hcs hx BG BH CV hlt hj
     generalize vN vs j = kv at *
     generalize gr ks j = r at *
     aa fail
     refine eE (by af) 10 (fun w' => w'.cell? ⟨tb, 0, none⟩ = some P' ∧ w'.cell? ⟨tb, 1, none⟩ = some N' ∧ w'.cell? ⟨xb, 1, none⟩ = some (.slice (some ⟨kb, ko, none⟩) ks.length kc) ∧ w'.cell? ⟨kb, ko + j, none⟩ = some kv) ⟨a0, a1, hx1, hkc⟩ (fun hS => ?_)
     simp only [List.size_toArray, List.length_cons, List.length_nil, Nat.reduceAdd, Array.replicate_succ, Array.replicate_zero, List.push_toArray, List.nil_append, List.cons_append]
     refine au.take (i := 0) (v := ?y6) rfl (by af) (fun _ _ _ h => h) (by rfl) (fun w av => ?l7) hS ?y7
     case l7 =>
      (try dsimp only at av)
      aj
      try ah rfl
     try simp only [Act.put, az, aA, aB]
     refine au.take (i := 1) (v := ?y8) rfl (by af) (fun _ _ _ h => h) (by rfl) (fun w av => ?l9) hS ?y9
     case l9 =>
      (try dsimp only at av)
      aj
      try ah rfl
     try simp only [Act.put, az, aA, aB]
     refine au.take (i := 2) (v := ?BI) rfl (by af) (fun _ _ _ h => h) (by rfl) (fun w av => ?oD) hS ?BJ
     case oD =>
      (try dsimp only at av)
      aj
      try ah rfl
     try simp only [Act.put, az, aA, aB]
     refine au.take (i := 3) (v := ?BK) rfl (by af) (fun _ _ _ h => h) (by rfl) (fun w av => ?oE) hS ?BL
     case oE =>
      (try dsimp only at av)
      aj
      try ah rfl
     try simp only [Act.put, az, aA, aB]
     refine au.take (i := 4) (v := ?BM) rfl (by af) (fun _ _ _ h => h) (by rfl) (fun w av => ?oF) hS ?BN
     case oF =>
      (try dsimp only at av)
      aj
      try ah rfl
     try simp only [Act.put, az, aA, aB]
     refine au.take (i := 5) (v := ?BO) rfl (by af) (fun _ _ _ h => h) (by rfl) (fun w av => ?oG) hS ?BP
     case oG =>
      (try dsimp only at av)
      aj
      try ah rfl
     try simp only [Act.put, az, aA, aB]
     refine au.take (i := 6) (v := ?Fh) rfl (by af) (fun _ _ _ h => h) (by rfl) (fun w av => ?qY) hS ?Fi
     case qY =>
      (try dsimp only at av)
      aj
      try ah rfl
     try simp only [Act.put, az, aA, aB]
     refine au.take (i := 7) (v := ?gv7k1) rfl (by af) (fun _ _ _ h => h) (by rfl) (fun w av => ?Mh) hS ?gr7k1
     case Mh =>
      (try dsimp only at av)
      aj
      try ah rfl
     try simp only [Act.put, az, aA, aB]
     refine au.take (i := 8) (v := ?gv8k1) rfl (by af) (fun _ _ _ h => h) (by rfl) (fun w av => ?Mi) hS ?gr8k1
     case Mi =>
      (try dsimp only at av)
      aj
      try ah rfl
     try simp only [Act.put, az, aA, aB]
     refine au.step (i := 9) rfl (by af) (fun K' hK => ?_)
     aj
     refine (eM.out _ (Az wo)).mono ?_
     rintro e w3 ⟨P2, N2, rfl, tw, k8⟩
     obtain ⟨p2, c2, rfl, _, _⟩ := aC.open tw.bJ.ints
     obtain ⟨q2, e2, rfl, _, _⟩ := aC.open tw.bW.strs
     have hfz := x4 D2.out k8
     have uQ := hfz 0
     have mB := hfz 1
     have hw0 : w3.cell? ⟨tb, 0, none⟩ = some P' := (World.cell?_of_block (a := ⟨tb, 0, none⟩) (kJ D2.out k8)).trans D2.out.cells.1
     have hw1 : w3.cell? ⟨tb, 1, none⟩ = some N' := (World.cell?_of_block (a := ⟨tb, 1, none⟩) (kJ D2.out k8)).trans D2.out.cells.2.1
     have fH := ag (D2.out.put (u := T.app r (t.ps.length : Int)) (Mg D2.out k8) (kJ D2.out k8) tw)
     clear hfz tw k8
     refine hK.out _ _ (bh (by af)) (fun hS => ?_)
     try simp only [az, aA, aB]
     refine au.step (i := 10) rfl (by af) (fun K' hK => ?_)
     aj
     refine hK.out _ _ (bh (by af)) (fun hS => ?_)
     refine au.done (by af) ?_
     aa fail
     aF
     case rel => exact ⟨j + 1, _, _, aU.out, by aH, by rw [← OL.out]; exact fH.out.1, HKJ.out.trans fH.out.2⟩
     case measure => have := aU.out; simp [intOf]; omega
    ·obtain rfl : j = ks.length := by omega
     have hcs := BG.out.cells
     have a0 := hcs.1
     have a1 := hcs.2.1
     have hrb : wo.heap[tb + 1]? = some (Obj.cells #[.slice none 0 0, .slice none 0 0] 39 (0, 0)) :=
      (BH.out.block (tb + 1) (by rw [dG.out]; omega) (by omega) (fun e => by have := x5.out _ e.symm; omega) (fun e => by have := mO.out _ e.symm; omega)).trans gQ.out
     obtain ⟨r0, r1, r2, r3⟩ : wo.cell? ⟨tb + 1, 0, none⟩ = some (.slice none 0 0) ∧ wo.cell? ⟨tb + 1, 1, none⟩ = some (.slice none 0 0) ∧ wo.frozen? ⟨tb + 1, 0, none⟩ = false ∧ wo.frozen? ⟨tb + 1, 1, none⟩ = false := by
      refine ⟨?_, ?_, ?_, ?_⟩ <;> simp [World.cell?, World.frozen?, hrb]
     have qv := BG.out
     rw [List.take_length, FG.out] at qv
     have jI := ag qv
     have lF := ag BH.out
     obtain ⟨pq, gj, rfl, _, _⟩ := aC.open qv.tl.bJ.ints
     obtain ⟨nq, gm, rfl, _, _⟩ := aC.open qv.tl.bW.strs
     have Gm := ag hrb
     clear hcs BG BH qv hx hlt hj hrb
     aa fail
     have cg : ∀ b, b ≠ tb + 1 → ((wo.setCell ⟨tb + 1, 0, none⟩ (.slice pq (t.app (.node nm ks) par).ps.length gj)).setCell ⟨tb + 1, 1, none⟩ (.slice nq (t.app (.node nm ks) par).ns.length gm)).heap[b]? = wo.heap[b]? := fun b hb => by rw [blk_setCell_other _ _ _ _ hb, blk_setCell_other _ _ _ _ hb]
     have hheap : ((wo.setCell ⟨tb + 1, 0, none⟩ (.slice pq (t.app (.node nm ks) par).ps.length gj)).setCell ⟨tb + 1, 1, none⟩ (.slice nq (t.app (.node nm ks) par).ns.length gm)).heap[tb + 1]? = some (Obj.cells #[.slice pq (t.app (.node nm ks) par).ps.length gj, .slice nq (t.app (.node nm ks) par).ns.length gm] 39 (0, 0)) := by
      simp [World.setCell, Array.getElem?_modify, Gm.out]
     have hsf : ((wo.setCell ⟨tb + 1, 0, none⟩ (.slice pq (t.app (.node nm ks) par).ps.length gj)).setCell ⟨tb + 1, 1, none⟩ (.slice nq (t.app (.node nm ks) par).ns.length gm)).heap.size = wo.heap.size := by simp [World.size_setCell]
     have hos : ((wo.setCell ⟨tb + 1, 0, none⟩ (.slice pq (t.app (.node nm ks) par).ps.length gj)).setCell ⟨tb + 1, 1, none⟩ (.slice nq (t.app (.node nm ks) par).ns.length gm)).os = wo.os ∧ ((wo.setCell ⟨tb + 1, 0, none⟩ (.slice pq (t.app (.node nm ks) par).ps.length gj)).setCell ⟨tb + 1, 1, none⟩ (.slice nq (t.app (.node nm ks) par).ns.length gm)).tape = wo.tape ∧ ((wo.setCell ⟨tb + 1, 0, none⟩ (.slice pq (t.app (.node nm ks) par).ps.length gj)).setCell ⟨tb + 1, 1, none⟩ (.slice nq (t.app (.node nm ks) par).ns.length gm)).output = wo.output := ⟨rfl, rfl, rfl⟩
     generalize (wo.setCell ⟨tb + 1, 0, none⟩ (.slice pq (t.app (.node nm ks) par).ps.length gj)).setCell ⟨tb + 1, 1, none⟩ (.slice nq (t.app (.node nm ks) par).ns.length gm) = wf at *
     have sg : wf.cell? ⟨tb + 1, 0, none⟩ = some (.slice pq (t.app (.node nm ks) par).ps.length gj) := by simp [World.cell?, hheap]
     have jg : wf.cell? ⟨tb + 1, 1, none⟩ = some (.slice nq (t.app (.node nm ks) par).ns.length gm) := by simp [World.cell?, hheap]
     refine ⟨rfl, .agg #[.slice pq (t.app (.node nm ks) par).ps.length gj, .slice nq (t.app (.node nm ks) par).ns.length gm], by simp [results, Tryz.results241, go_sem, sg, jg], ?_⟩
     have hs2 := dG.out
     have hnp : ∀ b, (Value.slice pq (t.app (.node nm ks) par).ps.length gj).ownBlock = some b → (Value.slice pp t.ps.length pc).ownBlock = some b ∨ w2.heap.size ≤ b := lF.out.gA
     have hnn : ∀ b, (Value.slice nq (t.app (.node nm ks) par).ns.length gm).ownBlock = some b → (Value.slice np t.ns.length nc).ownBlock = some b ∨ w2.heap.size ≤ b := lF.out.gB
     have Ar : ∀ b, (Value.slice pq (t.app (.node nm ks) par).ps.length gj).ownBlock = some b → b ≠ tb + 1 := fun b hb => by
      rcases hnp b hb with h1 | h1
      ·have := x5.out b h1; omega
      ·omega
     have vr : ∀ b, (Value.slice nq (t.app (.node nm ks) par).ns.length gm).ownBlock = some b → b ≠ tb + 1 := fun b hb => by
      rcases hnn b hb with h1 | h1
      ·have := mO.out b h1; omega
      ·omega
     have FN := lF.out.size
     refine ⟨_, _, rfl, ⟨jI.out.tl.bJ.ef fun b hb => cg b (Ar b hb), jI.out.tl.bW.ef fun b hb => cg b (vr b hb), jI.out.tl.apart⟩, hos.1.trans (lF.out.os.trans iD.out.os), hos.2.1.trans (lF.out.tape.trans iD.out.tape), hos.2.2.trans (lF.out.output.trans iD.out.output), by omega, fun b hb h1 h2 h3 => ?_, fun b hb => ?_, fun b hb => ?_⟩
     ·rw [cg b (by omega), lF.out.block b (by omega) (by omega) h2 h3]
      exact iD.out.block b hb
     ·rcases hnp b hb with h1 | h1
      ·exact .inl h1
      ·exact .inr (by omega)
     ·rcases hnn b hb with h1 | h1
      ·exact .inl h1
      ·exact .inr (by omega)
end Go.Proofs.YtpnmblnahjjmhaaGreat
