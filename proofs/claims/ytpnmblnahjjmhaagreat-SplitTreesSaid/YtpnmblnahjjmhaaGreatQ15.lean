/- The contract of layer 31's reference's with and number. -/
import Derived.Test.YtpnmblnahjjmhaaGreatQ1
import Derived.Test.YtpnmblnahjjmhaaGreatQ14
import Derived.Test.YtpnmblnahjjmhaaGreatQ11
import Derived.Deep.CutRange
set_option maxRecDepth 100000
namespace Go.Proofs.YtpnmblnahjjmhaaGreat
open Go.RowKit Go.Deep
structure RW (tb B0 : Nat) (w W : World) (P N Pv Nv : Value) (ps : List Int) (ns : List ByteArray) : Prop where
 gk : GK tb w W P N Pv Nv
 tl : TL B0 W Pv Nv ps ns
 same : W.heap[tb]? = w.heap[tb]?
 lo : (tb < w.heap.size ∧ P.ownBlock ≠ some tb ∧ N.ownBlock ≠ some tb) ∧ B0 ≤ w.heap.size
section
variable {tb B0 : Nat} {w W W' : World} {P N Pv Nv : Value} {ps : List Int} {ns : List ByteArray}
theorem RW.start (h : TL B0 w P N ps ns) (hl : (tb < w.heap.size ∧ P.ownBlock ≠ some tb ∧ N.ownBlock ≠ some tb) ∧ B0 ≤ w.heap.size) : RW tb B0 w w P N P N ps ns := ⟨GK.refl _ _ _ _, h, rfl, hl⟩
theorem RW.notP (h : RW tb B0 w W P N Pv Nv ps ns) : Pv.ownBlock ≠ some tb := fun e => by
 rcases h.gk.fN tb e with h1 | h1
 ·exact h.lo.1.2.1 h1
 ·have := h.lo.1.1; omega
theorem RW.notN (h : RW tb B0 w W P N Pv Nv ps ns) : Nv.ownBlock ≠ some tb := fun e => by
 rcases h.gk.fO tb e with h1 | h1
 ·exact h.lo.1.2.2 h1
 ·have := h.lo.1.1; omega
theorem RW.up (h : RW tb B0 w W P N Pv Nv ps ns) (hu : Up W W') : RW tb B0 w W' P N Pv Nv ps ns :=
 ⟨h.gk.up hu, h.tl.up hu, (Below.block hu tb (by have := h.gk.size; have := h.lo.1.1; omega)).trans h.same, h.lo⟩
theorem RW.oC (h : RW tb B0 w W P N Pv Nv ps ns) {g cap k : Nat} {u : Int} (ho : ah B0 3 W' (.slice (some ⟨g, 0, none⟩) k cap) (ps.map (Value.int .i64) ++ [.int .i64 u])) (hg : W.grownBy W' Pv.ownBlock) (eL : Pv.ownBlock = some g ∨ W.heap.size ≤ g) :
  RW tb B0 w W' P N (.slice (some ⟨g, 0, none⟩) k cap) Nv (ps ++ [u]) ns := by
 have hlo := h.lo
 have hsz := h.gk.size
 have hnp := h.notP
 refine ⟨⟨hg.os.trans h.gk.os, hg.tape.trans h.gk.tape, hg.output.trans h.gk.output, Nat.le_trans hsz hg.size, fun b hb h1 h2 h3 => ?_, fun b hb => ?_, h.gk.fO⟩, ⟨by rw [List.map_append]; exact ho, h.tl.bA.dz fun b hb => hg.block b (ax h.tl.bA hb).2 (fun e => h.tl.apart b e.symm hb), fun b hb hb2 => ?_⟩, (hg.block tb (by have := hlo.1.1; omega) (fun e => hnp e.symm)).trans h.same, hlo⟩
 ·rw [← h.gk.block b hb h1 h2 h3]
  refine hg.block b (by omega) fun e => ?_
  rcases h.gk.fN b e.symm with h4 | h4
  ·exact h2 h4.symm
  ·omega
 ·injection hb with hb
  have hb : g = b := hb
  subst hb
  rcases eL with h4 | h4
  ·exact h.gk.fN g h4
  ·exact .inr (by omega)
 ·injection hb with hb
  have hb : g = b := hb
  subst hb
  rcases eL with h1 | h1
  ·exact h.tl.apart g h1 hb2
  ·have := (ax h.tl.bA hb2).2; omega
theorem RW.nA (h : RW tb B0 w W P N Pv Nv ps ns) {g cap k : Nat} {u : ByteArray} (ho : ah B0 9 W' (.slice (some ⟨g, 0, none⟩) k cap) (ns.map Value.string ++ [.string u])) (hg : W.grownBy W' Nv.ownBlock) (eL : Nv.ownBlock = some g ∨ W.heap.size ≤ g) :
  RW tb B0 w W' P N Pv (.slice (some ⟨g, 0, none⟩) k cap) ps (ns ++ [u]) := by
 have hlo := h.lo
 have hsz := h.gk.size
 have hnn := h.notN
 refine ⟨⟨hg.os.trans h.gk.os, hg.tape.trans h.gk.tape, hg.output.trans h.gk.output, Nat.le_trans hsz hg.size, fun b hb h1 h2 h3 => ?_, h.gk.fN, fun b hb => ?_⟩, ⟨h.tl.bg.dz fun b hb => hg.block b (ax h.tl.bg hb).2 (fun e => h.tl.apart b hb e.symm), by rw [List.map_append]; exact ho, fun b hb hb2 => ?_⟩, (hg.block tb (by have := hlo.1.1; omega) (fun e => hnn e.symm)).trans h.same, hlo⟩
 ·rw [← h.gk.block b hb h1 h2 h3]
  refine hg.block b (by omega) fun e => ?_
  rcases h.gk.fO b e.symm with h4 | h4
  ·exact h3 h4.symm
  ·omega
 ·injection hb with hb
  have hb : g = b := hb
  subst hb
  rcases eL with h4 | h4
  ·exact h.gk.fO g h4
  ·exact .inr (by omega)
 ·injection hb2 with hb2
  have hb2 : g = b := hb2
  subst hb2
  rcases eL with h1 | h1
  ·exact h.tl.apart g hb h1
  ·have := (ax h.tl.bg hb).2; omega
theorem RW.cells {P0 N0 : Value} (h : RW tb B0 w W P N Pv Nv ps ns) (hb : w.heap[tb]? = some (Obj.cells #[P0, N0] 39 (0, 0))) :
  W.cell? ⟨tb, 0, none⟩ = some P0 ∧ W.cell? ⟨tb, 1, none⟩ = some N0 := by
 have h1 := h.same.trans hb
 exact ⟨by simp [World.cell?, h1], by simp [World.cell?, h1]⟩
theorem RW.frozen {P0 N0 : Value} (h : RW tb B0 w W P N Pv Nv ps ns) (hb : w.heap[tb]? = some (Obj.cells #[P0, N0] 39 (0, 0))) (o : Nat) : W.frozen? ⟨tb, o, none⟩ = false := by
 have h1 := h.same.trans hb
 simp [World.frozen?, h1]
end
structure GW (tb B0 : Nat) (W : World) (P N : Value) (t : aA) : Prop where
 box : W.heap[tb]? = some (Obj.cells #[P, N] 39 (0, 0))
 tl : TL B0 W P N t.ps t.ns
 lo : (P.ownBlock ≠ some tb ∧ N.ownBlock ≠ some tb) ∧ B0 ≤ W.heap.size
theorem GW.lt {tb B0 : Nat} {W : World} {P N : Value} {t : aA} (h : GW tb B0 W P N t) : tb < W.heap.size := (Array.getElem?_eq_some_iff.1 h.box).1
theorem GW.cells {tb B0 : Nat} {W : World} {P N : Value} {t : aA} (h : GW tb B0 W P N t) : W.cell? ⟨tb, 0, none⟩ = some P ∧ W.cell? ⟨tb, 1, none⟩ = some N ∧ W.frozen? ⟨tb, 0, none⟩ = false ∧ W.frozen? ⟨tb, 1, none⟩ = false := by
 refine ⟨?_, ?_, ?_, ?_⟩ <;> simp [World.cell?, World.frozen?, h.box]
theorem GW.up {tb B0 : Nat} {W W' : World} {P N : Value} {t : aA} (h : GW tb B0 W P N t) (hu : Up W W') : GW tb B0 W' P N t :=
 ⟨(Below.block hu tb h.lt).trans h.box, h.tl.up hu, h.lo.1, Nat.le_trans h.lo.2 hu.size⟩
theorem GW.put {tb B0 : Nat} {W X : World} {P N P' N' : Value} {t u : aA} (h : GW tb B0 W P N t) (hk : GK tb W X P N P' N') (hs : X.heap[tb]? = W.heap[tb]?) (ht : TL B0 X P' N' u.ps u.ns) :
  GW tb B0 ((X.setCell ⟨tb, 0, none⟩ P').setCell ⟨tb, 1, none⟩ N') P' N' u ∧ GK tb W ((X.setCell ⟨tb, 0, none⟩ P').setCell ⟨tb, 1, none⟩ N') P N P' N' := by
 have h1 := hs.trans h.box
 have hl := h.lt
 have hp : P'.ownBlock ≠ some tb := fun e => by
  rcases hk.fN tb e with h2 | h2
  ·exact h.lo.1.1 h2
  ·omega
 have hn : N'.ownBlock ≠ some tb := fun e => by
  rcases hk.fO tb e with h2 | h2
  ·exact h.lo.1.2 h2
  ·omega
 have bD : ∀ b, b ≠ tb → ((X.setCell ⟨tb, 0, none⟩ P').setCell ⟨tb, 1, none⟩ N').heap[b]? = X.heap[b]? := fun b hb => by rw [blk_setCell_other _ _ _ _ hb, blk_setCell_other _ _ _ _ hb]
 have hsz : ((X.setCell ⟨tb, 0, none⟩ P').setCell ⟨tb, 1, none⟩ N').heap.size = X.heap.size := by simp [World.size_setCell]
 refine ⟨⟨by simp [World.setCell, Array.getElem?_modify, h1], ⟨ht.bg.dz fun b hb => bD b (fun e => hp (by rw [hb, e])), ht.bA.dz fun b hb => bD b (fun e => hn (by rw [hb, e])), ht.apart⟩, ⟨hp, hn⟩, by rw [hsz]; exact Nat.le_trans h.lo.2 hk.size⟩, hk.os, hk.tape, hk.output, by rw [hsz]; exact hk.size, fun b hb h2 h3 h4 => (bD b h2).trans (hk.block b hb h2 h3 h4), hk.fN, hk.fO⟩
theorem RW.store {tb B0 : Nat} {w W : World} {P N Pv Nv : Value} {t : aA} {z : Int} {nm : ByteArray} (h0 : GW tb B0 w P N t) (h : RW tb B0 w W P N Pv Nv (t.ps ++ [z]) (t.ns ++ [nm])) :
  GW tb B0 ((W.setCell ⟨tb, 0, none⟩ Pv).setCell ⟨tb, 1, none⟩ Nv) Pv Nv (t.push z nm) ∧ GK tb w ((W.setCell ⟨tb, 0, none⟩ Pv).setCell ⟨tb, 1, none⟩ Nv) P N Pv Nv := h0.put h.gk h.same h.tl
theorem GK.Bp {tb : Nat} {w W : World} {P N P' N' : Value} (h : GK tb w W P N P' N') {S : Nat → Prop} (hS : ∀ b, S b → b < w.heap.size → b ≠ tb ∧ P.ownBlock ≠ some b ∧ N.ownBlock ≠ some b) : Kept S w W := fun b hb hl => by
 obtain ⟨h1, h2, h3⟩ := hS b hb hl
 exact h.block b hl h1 (fun e => h2 e.symm) (fun e => h3 e.symm)
def xI (B0 : Nat) (w : World) (P N : Value) (t : aA) (r : RT) (par : Int) (e : Ending) (w' : World) : Prop :=
 ∃ P' N', e = .returned (.agg #[P', N']) ∧ TL B0 w' P' N' (t.app r par).ps (t.app r par).ns ∧ GK w.heap.size w w' P N P' N'
theorem Ad (t : aA) (nm : ByteArray) (ks : List RT) (par : Int) : (t.push par nm).apps ks t.ps.length = t.app (.node nm ks) par := by
 unfold aA.apps aA.app aA.push
 rw [psR, cm]
 simp
theorem RN (t : aA) (ks : List RT) {j : Nat} (h : j < ks.length) (own : Nat) : (t.apps (ks.take j) own).app (gr ks j) (own : Int) = t.apps (ks.take (j + 1)) own := by
 have hg : gr ks j = ks[j] := by simp [gr, h]
 rw [Ac, hg, List.take_succ_eq_append_getElem h]
theorem Md (ks : List RT) {j : Nat} (h : j < ks.length) : sizeRs (ks.take j) + aK (gr ks j) ≤ sizeRs ks := by
 induction ks generalizing j with
 | nil => simp at h
 | cons k ks ih =>
  cases j with
  | zero => rw [List.take_zero, sizeRs, sizeRs]; show _ + aK k ≤ _; omega
  | succ j =>
   have := ih (j := j) (by simpa using h)
   rw [List.take_succ_cons, sizeRs, sizeRs]
   show _ + aK (gr ks j) ≤ _
   omega
theorem Ae (w : World) : Up w w.drew := Up.drewN w 1
theorem jR {tb B0 : Nat} {wo w3 : World} {P N P2 N2 : Value} {T : aA} (h : GW tb B0 wo P N T) (hk : GK wo.drew.heap.size wo.drew w3 P N P2 N2) : w3.heap[tb]? = wo.heap[tb]? := by
 have hl := h.lt
 exact hk.block tb hl (fun e => by have : tb = wo.heap.size := e; omega) (fun e => h.lo.1.1 e.symm) (fun e => h.lo.1.2 e.symm)
theorem xJ {tb B0 : Nat} {wo w3 : World} {P N P2 N2 : Value} {T : aA} (h : GW tb B0 wo P N T) (hk : GK wo.drew.heap.size wo.drew w3 P N P2 N2) (o : Nat) : w3.frozen? ⟨tb, o, none⟩ = false := by
 have h1 := (jR h hk).trans h.box
 simp [World.frozen?, h1]
theorem Me {tb B0 : Nat} {wo w3 : World} {P N P2 N2 : Value} {T : aA} (_ : GW tb B0 wo P N T) (hk : GK wo.drew.heap.size wo.drew w3 P N P2 N2) : GK tb wo w3 P N P2 N2 :=
 ⟨hk.os, hk.tape, hk.output, hk.size, fun b hb _ h2 h3 => hk.block b hb (fun e => by have : b = wo.heap.size := e; omega) h2 h3, hk.fN, hk.fO⟩
set_option maxHeartbeats 4000000 in
theorem Xi (B0 : Nat) : ∀ (d : Nat) (r : RT), aK r ≤ d → ∀ (w : World) (P N v : Value) (t : aA) (par : Int), TL B0 w P N t.ps t.ns → B0 ≤ w.heap.size → t.ns.length = t.ps.length → t.ps.length + aK r ≤ 100000 →
  RAt (fun b => P.ownBlock ≠ some b ∧ N.ownBlock ≠ some b) w r v → Calls Tryz.prog 241 #[.agg #[P, N], v, .int .i64 par] w (xI B0 w P N t r par) := by
 intro d
 induction d with
 | zero => intro r hr; have := jw r; omega
 | succ d ih =>
 intro r hr w P N v t par uC hB0 hnl hbd hv
 cases r with
 | node nm ks =>
  obtain ⟨xb, kp, kc, vs, rfl, hS, c0, c1, hk, hs⟩ := hv.open
  simp only [RT.nm, RT.kids] at c0 c1 hk hs
  have iq := qw ks
  rw [aK] at hr hbd
  obtain ⟨pp, pc, rfl, _, _⟩ := av.open uC.bg.ints
  obtain ⟨np, nc, rfl, _, _⟩ := av.open uC.bA.strs
  have kr := aa ih
  have pJ := aa hnl
  have Gg := Up.alloc w (.cells #[.slice pp t.ps.length pc, .slice np t.ns.length nc] 39)
  have dx := Gg.trans (Up.alloc _ (.cells #[.slice none 0 0, .slice none 0 0] 39))
  have hsz : ((w.alloc (.cells #[.slice pp t.ps.length pc, .slice np t.ns.length nc] 39)).alloc (.cells #[.slice none 0 0, .slice none 0 0] 39)).heap.size = w.heap.size + 2 := by simp
  have hb1 : ((w.alloc (.cells #[.slice pp t.ps.length pc, .slice np t.ns.length nc] 39)).alloc (.cells #[.slice none 0 0, .slice none 0 0] 39)).heap[w.heap.size]? = some (Obj.cells #[.slice pp t.ps.length pc, .slice np t.ns.length nc] 39 (0, 0)) :=
   (Below.block (Up.alloc (w.alloc (.cells #[.slice pp t.ps.length pc, .slice np t.ns.length nc] 39)) _) w.heap.size (by rw [World.size_alloc]; omega)).trans (World.alloc_heap_new _ _)
  have hrb := kA (w := w.alloc (.cells #[.slice pp t.ps.length pc, .slice np t.ns.length nc] 39)) (P := .slice none 0 0) (N := .slice none 0 0) (T := 39)
  rw [World.size_alloc] at hrb
  have hpl : ∀ b, (Value.slice pp t.ps.length pc).ownBlock = some b → b < w.heap.size := fun b hb => (ax uC.bg hb).2
  have tK : ∀ b, (Value.slice np t.ns.length nc).ownBlock = some b → b < w.heap.size := fun b hb => (ax uC.bA hb).2
  have HG : Hid (GW w.heap.size B0 ((w.alloc (.cells #[.slice pp t.ps.length pc, .slice np t.ns.length nc] 39)).alloc (.cells #[.slice none 0 0, .slice none 0 0] 39)) (.slice pp t.ps.length pc) (.slice np t.ns.length nc) t) :=
   ⟨hb1, uC.up dx, ⟨fun e => by have := hpl _ e; omega, fun e => by have := tK _ e; omega⟩, by omega⟩
  have iE := aa (dx.cell c0)
  have dM := aa (dx.cell c1)
  have hxl : xb < w.heap.size := World.block_lt_of_cell? w _ c0
  have OD : Hid (av (fun b => b < w.heap.size ∧ (Value.slice pp t.ps.length pc).ownBlock ≠ some b ∧ (Value.slice np t.ns.length nc).ownBlock ≠ some b) ((w.alloc (.cells #[.slice pp t.ps.length pc, .slice np t.ns.length nc] 39)).alloc (.cells #[.slice none 0 0, .slice none 0 0] 39)) (.slice kp ks.length kc) ks.length (vN vs)) :=
   (hk.sub (T := fun b => b < w.heap.size ∧ (Value.slice pp t.ps.length pc).ownBlock ≠ some b ∧ (Value.slice np t.ns.length nc).ownBlock ≠ some b) fun b hb hl => ⟨hl, hb⟩).keep (dx.kept _)
  have HRS : Hid (RsAt (fun b => b < w.heap.size ∧ (Value.slice pp t.ps.length pc).ownBlock ≠ some b ∧ (Value.slice np t.ns.length nc).ownBlock ≠ some b) ((w.alloc (.cells #[.slice pp t.ps.length pc, .slice np t.ns.length nc] 39)).alloc (.cells #[.slice none 0 0, .slice none 0 0] 39)) ks vs) :=
   RsAt.keep (dx.kept _) ks (RsAt.sub (fun b hb hl => ⟨hl, hb⟩) ks hs)
  have gu := aa hrb
  have cO := aa hsz
  have gR := aa dx
  have HS := aa hS
  have xK := aa hpl
  have lQ := aa tK
  have iL := aa hbd
  have FA := aa (Ad t nm ks par)
  have kn := aa iq
  have HR := aa hr
  have Af := HG.out.cells.1
  clear ih hv Gg dx hb1 hrb hpl tK uC hk hs hnl c0 c1 hS hbd iq hr
  go_enter Tryz.func241, Tryz.ntmps241
  go_wp2_with fail
  clear Af
  generalize (w.alloc (.cells #[.slice pp t.ps.length pc, .slice np t.ns.length nc] 39)).alloc (.cells #[.slice none 0 0, .slice none 0 0] 39) = w2 at *
  generalize htb : w.heap.size = tb at *
  have kF : Hid (∀ (W : World) (P' N' : Value), GK tb w2 W (.slice pp t.ps.length pc) (.slice np t.ns.length nc) P' N' → W.cell? ⟨xb, 0, none⟩ = some (.string nm) ∧ W.cell? ⟨xb, 1, none⟩ = some (.slice kp ks.length kc)) := fun W P' N' hk => by
   have h1 := hk.block xb (by rw [cO.out]; omega) (by omega) (fun e => HS.out.1 e.symm) (fun e => HS.out.2 e.symm)
   exact ⟨(World.cell?_of_block (a := ⟨xb, 0, none⟩) h1).trans iE.out, (World.cell?_of_block (a := ⟨xb, 1, none⟩) h1).trans dM.out⟩
  go_cut [] from 12 to 26 (fun wx => ∃ P' N', GW tb B0 wx P' N' (t.push par nm) ∧ GK tb w2 wx (.slice pp t.ps.length pc) (.slice np t.ns.length nc) P' N')
  case first =>
   have hd := Up.drewN w2 1
   have zA := aa HG.out
   have cn := aa HG.out.box
   have sQ : Hid (RW tb B0 w2 w2.drew (.slice pp t.ps.length pc) (.slice np t.ns.length nc) (.slice pp t.ps.length pc) (.slice np t.ns.length nc) t.ps t.ns) := (RW.start HG.out.tl ⟨⟨HG.out.lt, HG.out.lo.1⟩, HG.out.lo.2⟩).up hd
   have dD : Hid (t.ps.length ≤ 1000000 ∧ t.ns.length ≤ 1000000) := by have := iL.out; have := pJ.out; unfold Hid; omega
   have gD : Hid (∀ {W : World} {P' N' : Value} {ps' : List Int} {ns' : List ByteArray}, RW tb B0 w2 W (.slice pp t.ps.length pc) (.slice np t.ns.length nc) P' N' ps' ns' → W.cell? ⟨tb, 0, none⟩ = some (.slice pp t.ps.length pc) ∧ W.cell? ⟨tb, 1, none⟩ = some (.slice np t.ns.length nc) ∧ W.cell? ⟨xb, 0, none⟩ = some (.string nm)) :=
    fun h => ⟨(h.cells cn.out).1, (h.cells cn.out).2, (kF.out _ _ _ h.gk).1⟩
   refine dK (by kernel_rfl) 13 (fun w' => w'.cell? ⟨tb, 0, none⟩ = some (.slice pp t.ps.length pc) ∧ w'.cell? ⟨tb, 1, none⟩ = some (.slice np t.ns.length nc) ∧ w'.cell? ⟨xb, 0, none⟩ = some (.string nm)) (gD.out sQ.out) (fun hS => ?_)
   simp only [List.size_toArray, List.length_cons, List.length_nil, Nat.reduceAdd, Array.replicate_succ, Array.replicate_zero, List.push_toArray, List.nil_append, List.cons_append]
   generalize w2.drew = Wd at *
   refine ag.take (i := 0) (v := ?Dr) rfl (by kernel_rfl) (fun _ _ _ h => h) (by rfl) (fun w hSw => ?pF) hS ?Ds
   case pF =>
    (try dsimp only at hSw)
    go_simp
    try with_reducible rfl
   try simp only [Act.put, aj, aq, au]
   refine ag.take (i := 1) (v := ?Dt) rfl (by kernel_rfl) (fun _ _ _ h => h) (by rfl) (fun w hSw => ?pG) hS ?Du
   case pG =>
    (try dsimp only at hSw)
    go_simp
    try with_reducible rfl
   try simp only [Act.put, aj, aq, au]
   refine ag.take (i := 2) (v := ?Dv) rfl (by kernel_rfl) (fun _ _ _ h => h) (by rfl) (fun w hSw => ?pH) hS ?Dw
   case pH =>
    (try dsimp only at hSw)
    go_simp
    try with_reducible rfl
   try simp only [Act.put, aj, aq, au]
   refine ag.take (i := 5) (v := ?J1) rfl (by kernel_rfl) (fun _ _ _ h => h) (by rfl) (fun w hSw => ?uh) hS ?J2
   case uh =>
    (try dsimp only at hSw)
    go_simp
    try with_reducible rfl
   try simp only [Act.put, aj, aq, au]
   refine ag.take (i := 6) (v := ?NY) rfl (by kernel_rfl) (fun _ _ _ h => h) (by rfl) (fun w hSw => ?xh) hS ?NZ
   case xh =>
    (try dsimp only at hSw)
    go_simp
    try with_reducible rfl
   try simp only [Act.put, aj, aq, au]
   refine ag.take (i := 7) (v := ?J3) rfl (by kernel_rfl) (fun _ _ _ h => h) (by rfl) (fun w hSw => ?uj) hS ?J4
   case uj =>
    (try dsimp only at hSw)
    go_simp
    try with_reducible rfl
   try simp only [Act.put, aj, aq, au]
   refine ag.take (i := 8) (v := ?T8) rfl (by kernel_rfl) (fun _ _ _ h => h) (by rfl) (fun w hSw => ?A5) hS ?T9
   case A5 =>
    (try dsimp only at hSw)
    go_simp
    try with_reducible rfl
   try simp only [Act.put, aj, aq, au]
   refine ag.take (i := 9) (v := ?Ua) rfl (by kernel_rfl) (fun _ _ _ h => h) (by rfl) (fun w hSw => ?A6) hS ?Ub
   case A6 =>
    (try dsimp only at hSw)
    go_simp
    try with_reducible rfl
   try simp only [Act.put, aj, aq, au]
   refine ag.take (i := 10) (v := ?Ri) rfl (by kernel_rfl) (fun _ _ _ h => h) (by rfl) (fun w hSw => ?zY) hS ?Rj
   case zY =>
    (try dsimp only at hSw)
    go_simp
    try with_reducible rfl
   try simp only [Act.put, aj, aq, au]
   refine ag.uU (i := 3) (i2 := 11) rfl rfl (by kernel_rfl) (fun K' hK => ?_) (fun K' hK => ?_)
   ·go_simp
    have jM : Hid (RW tb B0 _ (Wd.alloc (.cells #[.int .i64 par] 3)) _ _ _ _ _ _) := sQ.out.up (Up.alloc _ _)
    refine hK.out _ _ (fun _ => gD.out jM.out) (fun _ => ?_)
    try simp only [aj, aq, au]
    refine ag.uU (i := 4) (i2 := 11) rfl rfl (by kernel_rfl) (fun K' hK => ?_) (fun K' hK => ?_)
    ·refine cT (by rfl) _ _ _ (by rfl) B0 3 _ 8 Tryz.underlying26 Tryz.fU (by rfl) (by decide) (by rfl) jM.out.tl.bg (.int .i64 par) Wd.heap.size (by rfl) (bf Wd #[.int .i64 par] 3 0) (by rfl) (by rw [List.length_map]; exact dD.out.1) (Nat.le_trans jM.out.lo.2 jM.out.gk.size) ?_
     intro g1 DL fQ kz gq hrg1 _
     have iu : Hid (RW tb B0 _ fQ _ _ _ _ _ _) := jM.out.oC kz gq (hrg1.imp id (fun e => Nat.le_of_eq e.symm))
     refine hK.out _ _ (fun _ => gD.out iu.out) (fun _ => ?_)
     try simp only [Act.put, aj, aq, au]
     refine ag.free (i := 13) (v := ?gv13a) rfl (by kernel_rfl) (fun _ _ _ h => h) (by rfl) (fun w => ?gy13a) (fun _ => gD.out iu.out) ?gr13a
     case gy13a =>
      go_simp
      try with_reducible rfl
     try simp only [Act.put, aj, aq, au]
     refine ag.step (i := 11) rfl (by kernel_rfl) (fun K' hK => ?_)
     go_simp
     have fk : Hid (RW tb B0 _ (fQ.alloc (.cells #[.string nm] 9)) _ _ _ _ _ _) := iu.out.up (Up.alloc _ _)
     refine hK.out _ _ (fun _ => gD.out fk.out) (fun _ => ?_)
     try simp only [aj, aq, au]
     refine ag.step (i := 12) rfl (by kernel_rfl) (fun K' hK => ?_)
     refine cT (by rfl) _ _ _ (by rfl) B0 9 _ 16 Tryz.underlying22 Tryz.kD (by rfl) (by decide) (by rfl) fk.out.tl.bA (.string nm) fQ.heap.size (by rfl) (bf fQ #[.string nm] 9 0) (by rfl) (by rw [List.length_map]; exact dD.out.2) (Nat.le_trans fk.out.lo.2 fk.out.gk.size) ?_
     intro g2 zq dI jD iG hrg2 _
     have ew : Hid (RW tb B0 _ dI _ _ _ _ _ _) := fk.out.nA jD iG (hrg2.imp id (fun e => Nat.le_of_eq e.symm))
     refine hK.out _ _ (fun _ => gD.out ew.out) (fun _ => ?_)
     try simp only [Act.put, aj, aq, au]
     obtain ⟨sM, di⟩ := ew.out.cells cn.out
     have zu := ew.out.frozen cn.out 0
     have tJ := ew.out.frozen cn.out 1
     have fe := aa (ew.out.store zA.out)
     refine ag.step (i := 14) rfl (by kernel_rfl) (fun K' hK => ?_)
     go_simp
     refine hK.out _ _ (aP (by kernel_rfl)) (fun _ => ?_)
     try simp only [aj, aq, au]
     refine ag.free (i := 15) (v := ?gv15a) rfl (by kernel_rfl) (fun _ _ _ h => h) (by rfl) (fun w => ?LW) (aP (by kernel_rfl)) ?gr15a
     case LW =>
      go_simp
      try with_reducible rfl
     try simp only [Act.put, aj, aq, au]
     refine ag.step (i := 16) rfl (by kernel_rfl) (fun K' hK => ?_)
     go_simp
     refine hK.out _ _ (aP (by kernel_rfl)) (fun _ => ?_)
     refine ag.done (by kernel_rfl) ?_
     go_wp2_with fail
     go_meet
     case rel =>
      have cH := fe.out
      simp only [List.length_map] at cH
      exact ⟨_, _, cH.1, cH.2⟩
    ·go_simp
     have iu : Hid (RW tb B0 _ ((Wd.alloc (.cells #[.int .i64 par] 3)).alloc (.cells #[.string nm] 9)) _ _ _ _ _ _) := jM.out.up (Up.alloc _ _)
     refine hK.out _ _ (fun _ => gD.out iu.out) (fun _ => ?_)
     try simp only [aj, aq, au]
     have og := bf (Wd.alloc (.cells #[.int .i64 par] 3)) #[.string nm] 9 0
     have mM := (Up.alloc (Wd.alloc (.cells #[.int .i64 par] 3)) (.cells #[.string nm] 9)).cell (bf Wd #[.int .i64 par] 3 0)
     rw [World.size_alloc] at og
     refine ag.step (i := 4) rfl (by kernel_rfl) (fun K' hK => ?_)
     refine cT (by rfl) _ _ _ (by rfl) B0 3 _ 8 Tryz.underlying26 Tryz.fU (by rfl) (by decide) (by rfl) iu.out.tl.bg (.int .i64 par) Wd.heap.size (by rfl) mM (by rfl) (by rw [List.length_map]; exact dD.out.1) (Nat.le_trans iu.out.lo.2 iu.out.gk.size) ?_
     intro g1 DL fQ kz gq hrg1 _
     have fk : Hid (RW tb B0 _ fQ _ _ _ _ _ _) := iu.out.oC kz gq (hrg1.imp id (fun e => Nat.le_of_eq e.symm))
     have rE : fQ.cell? ⟨Wd.heap.size + 1, 0, none⟩ = some (.string nm) := by
      rw [gq.cell_far ⟨Wd.heap.size + 1, 0, none⟩ (by simp) (fun e => absurd (ax sQ.out.tl.bg e.symm).2 (by show ¬ (Wd.heap.size + 1 < Wd.heap.size); omega))]; exact og
     refine hK.out _ _ (fun _ => gD.out fk.out) (fun _ => ?_)
     try simp only [Act.put, aj, aq, au]
     refine ag.free (i := 13) (v := ?gv13b) rfl (by kernel_rfl) (fun _ _ _ h => h) (by rfl) (fun w => ?gy13b) (fun _ => gD.out fk.out) ?gr13b
     case gy13b =>
      go_simp
      try with_reducible rfl
     try simp only [Act.put, aj, aq, au]
     refine ag.step (i := 12) rfl (by kernel_rfl) (fun K' hK => ?_)
     refine cT (by rfl) _ _ _ (by rfl) B0 9 _ 16 Tryz.underlying22 Tryz.kD (by rfl) (by decide) (by rfl) fk.out.tl.bA (.string nm) (Wd.heap.size + 1) (by rfl) rE (by rfl) (by rw [List.length_map]; exact dD.out.2) (Nat.le_trans fk.out.lo.2 fk.out.gk.size) ?_
     intro g2 zq dI jD iG hrg2 _
     have ew : Hid (RW tb B0 _ dI _ _ _ _ _ _) := fk.out.nA jD iG (hrg2.imp id (fun e => Nat.le_of_eq e.symm))
     refine hK.out _ _ (fun _ => gD.out ew.out) (fun _ => ?_)
     try simp only [Act.put, aj, aq, au]
     obtain ⟨sM, di⟩ := ew.out.cells cn.out
     have zu := ew.out.frozen cn.out 0
     have tJ := ew.out.frozen cn.out 1
     have fe := aa (ew.out.store zA.out)
     refine ag.step (i := 14) rfl (by kernel_rfl) (fun K' hK => ?_)
     go_simp
     refine hK.out _ _ (aP (by kernel_rfl)) (fun _ => ?_)
     try simp only [aj, aq, au]
     refine ag.free (i := 15) (v := ?gv15b) rfl (by kernel_rfl) (fun _ _ _ h => h) (by rfl) (fun w => ?LX) (aP (by kernel_rfl)) ?gr15b
     case LX =>
      go_simp
      try with_reducible rfl
     try simp only [Act.put, aj, aq, au]
     refine ag.step (i := 16) rfl (by kernel_rfl) (fun K' hK => ?_)
     go_simp
     refine hK.out _ _ (aP (by kernel_rfl)) (fun _ => ?_)
     refine ag.done (by kernel_rfl) ?_
     go_wp2_with fail
     go_meet
     case rel =>
      have cH := fe.out
      simp only [List.length_map] at cH
      exact ⟨_, _, cH.1, cH.2⟩
   ·go_simp
    have jM : Hid (RW tb B0 _ (Wd.alloc (.cells #[.string nm] 9)) _ _ _ _ _ _) := sQ.out.up (Up.alloc _ _)
    refine hK.out _ _ (fun _ => gD.out jM.out) (fun _ => ?_)
    try simp only [aj, aq, au]
    refine ag.step (i := 3) rfl (by kernel_rfl) (fun K' hK => ?_)
    go_simp
    have iu : Hid (RW tb B0 _ ((Wd.alloc (.cells #[.string nm] 9)).alloc (.cells #[.int .i64 par] 3)) _ _ _ _ _ _) := jM.out.up (Up.alloc _ _)
    refine hK.out _ _ (fun _ => gD.out iu.out) (fun _ => ?_)
    try simp only [aj, aq, au]
    have mM := bf (Wd.alloc (.cells #[.string nm] 9)) #[.int .i64 par] 3 0
    have og := (Up.alloc (Wd.alloc (.cells #[.string nm] 9)) (.cells #[.int .i64 par] 3)).cell (bf Wd #[.string nm] 9 0)
    rw [World.size_alloc] at mM
    refine ag.step (i := 4) rfl (by kernel_rfl) (fun K' hK => ?_)
    refine cT (by rfl) _ _ _ (by rfl) B0 3 _ 8 Tryz.underlying26 Tryz.fU (by rfl) (by decide) (by rfl) iu.out.tl.bg (.int .i64 par) (Wd.heap.size + 1) (by rfl) mM (by rfl) (by rw [List.length_map]; exact dD.out.1) (Nat.le_trans iu.out.lo.2 iu.out.gk.size) ?_
    intro g1 DL fQ kz gq hrg1 _
    have fk : Hid (RW tb B0 _ fQ _ _ _ _ _ _) := iu.out.oC kz gq (hrg1.imp id (fun e => Nat.le_of_eq e.symm))
    have rE : fQ.cell? ⟨Wd.heap.size, 0, none⟩ = some (.string nm) := by
     rw [gq.cell_far ⟨Wd.heap.size, 0, none⟩ (by simp; omega) (fun e => absurd (ax sQ.out.tl.bg e.symm).2 (by show ¬ (Wd.heap.size < Wd.heap.size); omega))]; exact og
    refine hK.out _ _ (fun _ => gD.out fk.out) (fun _ => ?_)
    try simp only [Act.put, aj, aq, au]
    refine ag.free (i := 13) (v := ?gv13c) rfl (by kernel_rfl) (fun _ _ _ h => h) (by rfl) (fun w => ?gy13c) (fun _ => gD.out fk.out) ?gr13c
    case gy13c =>
     go_simp
     try with_reducible rfl
    try simp only [Act.put, aj, aq, au]
    refine ag.step (i := 12) rfl (by kernel_rfl) (fun K' hK => ?_)
    refine cT (by rfl) _ _ _ (by rfl) B0 9 _ 16 Tryz.underlying22 Tryz.kD (by rfl) (by decide) (by rfl) fk.out.tl.bA (.string nm) Wd.heap.size (by rfl) rE (by rfl) (by rw [List.length_map]; exact dD.out.2) (Nat.le_trans fk.out.lo.2 fk.out.gk.size) ?_
    intro g2 zq dI jD iG hrg2 _
    have ew : Hid (RW tb B0 _ dI _ _ _ _ _ _) := fk.out.nA jD iG (hrg2.imp id (fun e => Nat.le_of_eq e.symm))
    refine hK.out _ _ (fun _ => gD.out ew.out) (fun _ => ?_)
    try simp only [Act.put, aj, aq, au]
    obtain ⟨sM, di⟩ := ew.out.cells cn.out
    have zu := ew.out.frozen cn.out 0
    have tJ := ew.out.frozen cn.out 1
    have fe := aa (ew.out.store zA.out)
    refine ag.step (i := 14) rfl (by kernel_rfl) (fun K' hK => ?_)
    go_simp
    refine hK.out _ _ (aP (by kernel_rfl)) (fun _ => ?_)
    try simp only [aj, aq, au]
    refine ag.free (i := 15) (v := ?gv15c) rfl (by kernel_rfl) (fun _ _ _ h => h) (by rfl) (fun w => ?LY) (aP (by kernel_rfl)) ?gr15c
    case LY =>
     go_simp
     try with_reducible rfl
    try simp only [Act.put, aj, aq, au]
    refine ag.step (i := 16) rfl (by kernel_rfl) (fun K' hK => ?_)
    go_simp
    refine hK.out _ _ (aP (by kernel_rfl)) (fun _ => ?_)
    refine ag.done (by kernel_rfl) ?_
    go_wp2_with fail
    go_meet
    case rel =>
     have cH := fe.out
     simp only [List.length_map] at cH
     exact ⟨_, _, cH.1, cH.2⟩
  case rest =>
   obtain ⟨P1, N1, Gh, wm⟩ := hcut
   have HG1 := aa Gh
   have xm := aa wm
   have Um : Hid ((t.push par nm).apps (ks.take 0) t.ps.length = t.push par nm) := Ab _ _
   clear Gh wm
   go_wp2_with fail
   go_loopw [8] (fun i wr => ∃ (j : Nat) (P' N' : Value), j ≤ ks.length ∧ i = .int .i64 j ∧ Hid (GW tb B0 wr P' N' ((t.push par nm).apps (ks.take j) t.ps.length)) ∧ Hid (GK tb w2 wr (.slice pp t.ps.length pc) (.slice np t.ns.length nc) P' N')) (fun i _ => ks.length - (intOf i).toNat)
   case atStart => exact ⟨0, P1, N1, Nat.zero_le _, rfl, by rw [Um.out]; exact HG1.out, xm.out⟩
   case round =>
    obtain ⟨j, P', N', hj, rfl, Br, Bu⟩ := hrel
    obtain ⟨wo, rfl⟩ : ∃ wo : World, wo = wr := ⟨_, rfl⟩
    have hx := kF.out _ _ _ Bu.out
    have hx1 := hx.2
    by_cases hlt : j < ks.length
    ·have hcs := Br.out.cells
     have hkr : Kept (fun b => b < tb ∧ (Value.slice pp t.ps.length pc).ownBlock ≠ some b ∧ (Value.slice np t.ns.length nc).ownBlock ≠ some b) w2 wo := Bu.out.Bp fun b hb _ => ⟨by omega, hb.2⟩
     obtain ⟨kb, ko, rfl, hkc⟩ := pI (OD.out.keep hkr) hlt
     have nH := RAt.keep hkr _ (RsAt.get ks HRS.out j hlt)
     have Xj : RAt (fun b => P'.ownBlock ≠ some b ∧ N'.ownBlock ≠ some b) wo (gr ks j) (vN vs j) := RAt.sub (fun b hb hl => ⟨fun e => by
      rcases Bu.out.fN b e with h1 | h1
      ·exact hb.2.1 h1
      ·have := hb.1; have := cO.out; omega, fun e => by
      rcases Bu.out.fO b e with h1 | h1
      ·exact hb.2.2 h1
      ·have := hb.1; have := cO.out; omega⟩) _ nH
     have hgs := uB hlt
     obtain ⟨T, hT⟩ : ∃ T, T = (t.push par nm).apps (ks.take j) t.ps.length := ⟨_, rfl⟩
     have OE : Hid (T.app (gr ks j) (t.ps.length : Int) = (t.push par nm).apps (ks.take (j + 1)) t.ps.length) := by rw [hT]; exact RN _ _ hlt _
     have htl : T.ps.length = t.ps.length + 1 + sizeRs (ks.take j) ∧ T.ns.length = t.ns.length + 1 + sizeRs (ks.take j) := by
      rw [hT]; unfold aA.apps aA.push
      simp only [List.length_append, List.length_cons, List.length_nil, kC, rI]
      exact ⟨trivial, trivial⟩
     have CL := Md ks hlt
     rw [← hT] at Br
     have dO : Hid (∀ W, Up wo W → Calls Tryz.prog 241 #[.agg #[P', N'], vN vs j, .int .i64 (t.ps.length : Nat)] W (xI B0 W P' N' T (gr ks j) (t.ps.length : Nat))) := fun W hW =>
      kr.out (gr ks j) (by have := HR.out; omega) W P' N' (vN vs j) T _ (Br.out.tl.up hW) (Nat.le_trans Br.out.lo.2 hW.size) (by have := pJ.out; omega) (by have := iL.out; omega) (RAt.keep (hW.kept _) _ Xj)
     have DW := aa Br.out
     have HKJ := aa Bu.out
     have i1 : (0 : Int) ≤ (j : Int) := by omega
     have i2 : (j : Int) < (ks.length : Int) := by omega
     have i3 : (j : Int) < 1000000 := by have := kn.out; have := iL.out; omega
     have aM := aa hlt
     have a0 := hcs.1
     have a1 := hcs.2.1
     clear hT htl hgs nH Xj hkr hcs hx Br Bu CL hlt hj
     generalize vN vs j = kv at *
     generalize gr ks j = r at *
     go_wp2_with fail
     refine dK (by kernel_rfl) 10 (fun w' => w'.cell? ⟨tb, 0, none⟩ = some P' ∧ w'.cell? ⟨tb, 1, none⟩ = some N' ∧ w'.cell? ⟨xb, 1, none⟩ = some (.slice (some ⟨kb, ko, none⟩) ks.length kc) ∧ w'.cell? ⟨kb, ko + j, none⟩ = some kv) ⟨a0, a1, hx1, hkc⟩ (fun hS => ?_)
     simp only [List.size_toArray, List.length_cons, List.length_nil, Nat.reduceAdd, Array.replicate_succ, Array.replicate_zero, List.push_toArray, List.nil_append, List.cons_append]
     refine ag.take (i := 0) (v := ?yL) rfl (by kernel_rfl) (fun _ _ _ h => h) (by rfl) (fun w hSw => ?kY) hS ?yM
     case kY =>
      (try dsimp only at hSw)
      go_simp
      try with_reducible rfl
     try simp only [Act.put, aj, aq, au]
     refine ag.take (i := 1) (v := ?yN) rfl (by kernel_rfl) (fun _ _ _ h => h) (by rfl) (fun w hSw => ?kZ) hS ?yO
     case kZ =>
      (try dsimp only at hSw)
      go_simp
      try with_reducible rfl
     try simp only [Act.put, aj, aq, au]
     refine ag.take (i := 2) (v := ?Bv) rfl (by kernel_rfl) (fun _ _ _ h => h) (by rfl) (fun w hSw => ?nI) hS ?Bw
     case nI =>
      (try dsimp only at hSw)
      go_simp
      try with_reducible rfl
     try simp only [Act.put, aj, aq, au]
     refine ag.take (i := 3) (v := ?Bz) rfl (by kernel_rfl) (fun _ _ _ h => h) (by rfl) (fun w hSw => ?nJ) hS ?BA
     case nJ =>
      (try dsimp only at hSw)
      go_simp
      try with_reducible rfl
     try simp only [Act.put, aj, aq, au]
     refine ag.take (i := 4) (v := ?BB) rfl (by kernel_rfl) (fun _ _ _ h => h) (by rfl) (fun w hSw => ?nK) hS ?BC
     case nK =>
      (try dsimp only at hSw)
      go_simp
      try with_reducible rfl
     try simp only [Act.put, aj, aq, au]
     refine ag.take (i := 5) (v := ?BD) rfl (by kernel_rfl) (fun _ _ _ h => h) (by rfl) (fun w hSw => ?nM) hS ?BF
     case nM =>
      (try dsimp only at hSw)
      go_simp
      try with_reducible rfl
     try simp only [Act.put, aj, aq, au]
     refine ag.take (i := 6) (v := ?Fb) rfl (by kernel_rfl) (fun _ _ _ h => h) (by rfl) (fun w hSw => ?qx) hS ?Fc
     case qx =>
      (try dsimp only at hSw)
      go_simp
      try with_reducible rfl
     try simp only [Act.put, aj, aq, au]
     refine ag.take (i := 7) (v := ?gv7k1) rfl (by kernel_rfl) (fun _ _ _ h => h) (by rfl) (fun w hSw => ?Mf) hS ?gr7k1
     case Mf =>
      (try dsimp only at hSw)
      go_simp
      try with_reducible rfl
     try simp only [Act.put, aj, aq, au]
     refine ag.take (i := 8) (v := ?gv8k1) rfl (by kernel_rfl) (fun _ _ _ h => h) (by rfl) (fun w hSw => ?Mg) hS ?gr8k1
     case Mg =>
      (try dsimp only at hSw)
      go_simp
      try with_reducible rfl
     try simp only [Act.put, aj, aq, au]
     refine ag.step (i := 9) rfl (by kernel_rfl) (fun K' hK => ?_)
     go_simp
     refine (dO.out _ (Ae wo)).mono ?_
     rintro e w3 ⟨P2, N2, rfl, sR, hK3⟩
     obtain ⟨p2, c2, rfl, _, _⟩ := av.open sR.bg.ints
     obtain ⟨q2, e2, rfl, _, _⟩ := av.open sR.bA.strs
     have hfz := xJ DW.out hK3
     have uv := hfz 0
     have lB := hfz 1
     have hw0 : w3.cell? ⟨tb, 0, none⟩ = some P' := (World.cell?_of_block (a := ⟨tb, 0, none⟩) (jR DW.out hK3)).trans DW.out.cells.1
     have hw1 : w3.cell? ⟨tb, 1, none⟩ = some N' := (World.cell?_of_block (a := ⟨tb, 1, none⟩) (jR DW.out hK3)).trans DW.out.cells.2.1
     have eU := aa (DW.out.put (u := T.app r (t.ps.length : Int)) (Me DW.out hK3) (jR DW.out hK3) sR)
     clear hfz sR hK3
     refine hK.out _ _ (aP (by kernel_rfl)) (fun hS => ?_)
     try simp only [aj, aq, au]
     refine ag.step (i := 10) rfl (by kernel_rfl) (fun K' hK => ?_)
     go_simp
     refine hK.out _ _ (aP (by kernel_rfl)) (fun hS => ?_)
     refine ag.done (by kernel_rfl) ?_
     go_wp2_with fail
     go_roundw
     case rel => exact ⟨j + 1, _, _, aM.out, by go_num, by rw [← OE.out]; exact eU.out.1, HKJ.out.trans eU.out.2⟩
     case measure => have := aM.out; simp [intOf]; omega
    ·obtain rfl : j = ks.length := by omega
     have hcs := Br.out.cells
     have a0 := hcs.1
     have a1 := hcs.2.1
     have hrb : wo.heap[tb + 1]? = some (Obj.cells #[.slice none 0 0, .slice none 0 0] 39 (0, 0)) :=
      (Bu.out.block (tb + 1) (by rw [cO.out]; omega) (by omega) (fun e => by have := xK.out _ e.symm; omega) (fun e => by have := lQ.out _ e.symm; omega)).trans gu.out
     obtain ⟨r0, r1, r2, r3⟩ : wo.cell? ⟨tb + 1, 0, none⟩ = some (.slice none 0 0) ∧ wo.cell? ⟨tb + 1, 1, none⟩ = some (.slice none 0 0) ∧ wo.frozen? ⟨tb + 1, 0, none⟩ = false ∧ wo.frozen? ⟨tb + 1, 1, none⟩ = false := by
      refine ⟨?_, ?_, ?_, ?_⟩ <;> simp [World.cell?, World.frozen?, hrb]
     have pL := Br.out
     rw [List.take_length, FA.out] at pL
     have je := aa pL
     have kG := aa Bu.out
     obtain ⟨pq, fD, rfl, _, _⟩ := av.open pL.tl.bg.ints
     obtain ⟨nq, fE, rfl, _, _⟩ := av.open pL.tl.bA.strs
     have Gi := aa hrb
     clear hcs Br Bu pL hx hlt hj hrb
     go_wp2_with fail
     have bD : ∀ b, b ≠ tb + 1 → ((wo.setCell ⟨tb + 1, 0, none⟩ (.slice pq (t.app (.node nm ks) par).ps.length fD)).setCell ⟨tb + 1, 1, none⟩ (.slice nq (t.app (.node nm ks) par).ns.length fE)).heap[b]? = wo.heap[b]? := fun b hb => by rw [blk_setCell_other _ _ _ _ hb, blk_setCell_other _ _ _ _ hb]
     have hheap : ((wo.setCell ⟨tb + 1, 0, none⟩ (.slice pq (t.app (.node nm ks) par).ps.length fD)).setCell ⟨tb + 1, 1, none⟩ (.slice nq (t.app (.node nm ks) par).ns.length fE)).heap[tb + 1]? = some (Obj.cells #[.slice pq (t.app (.node nm ks) par).ps.length fD, .slice nq (t.app (.node nm ks) par).ns.length fE] 39 (0, 0)) := by
      simp [World.setCell, Array.getElem?_modify, Gi.out]
     have hsf : ((wo.setCell ⟨tb + 1, 0, none⟩ (.slice pq (t.app (.node nm ks) par).ps.length fD)).setCell ⟨tb + 1, 1, none⟩ (.slice nq (t.app (.node nm ks) par).ns.length fE)).heap.size = wo.heap.size := by simp [World.size_setCell]
     have hos : ((wo.setCell ⟨tb + 1, 0, none⟩ (.slice pq (t.app (.node nm ks) par).ps.length fD)).setCell ⟨tb + 1, 1, none⟩ (.slice nq (t.app (.node nm ks) par).ns.length fE)).os = wo.os ∧ ((wo.setCell ⟨tb + 1, 0, none⟩ (.slice pq (t.app (.node nm ks) par).ps.length fD)).setCell ⟨tb + 1, 1, none⟩ (.slice nq (t.app (.node nm ks) par).ns.length fE)).tape = wo.tape ∧ ((wo.setCell ⟨tb + 1, 0, none⟩ (.slice pq (t.app (.node nm ks) par).ps.length fD)).setCell ⟨tb + 1, 1, none⟩ (.slice nq (t.app (.node nm ks) par).ns.length fE)).output = wo.output := ⟨rfl, rfl, rfl⟩
     generalize (wo.setCell ⟨tb + 1, 0, none⟩ (.slice pq (t.app (.node nm ks) par).ps.length fD)).setCell ⟨tb + 1, 1, none⟩ (.slice nq (t.app (.node nm ks) par).ns.length fE) = wf at *
     have rF : wf.cell? ⟨tb + 1, 0, none⟩ = some (.slice pq (t.app (.node nm ks) par).ps.length fD) := by simp [World.cell?, hheap]
     have hr1 : wf.cell? ⟨tb + 1, 1, none⟩ = some (.slice nq (t.app (.node nm ks) par).ns.length fE) := by simp [World.cell?, hheap]
     refine ⟨rfl, .agg #[.slice pq (t.app (.node nm ks) par).ps.length fD, .slice nq (t.app (.node nm ks) par).ns.length fE], by simp [results, Tryz.results241, go_sem, rF, hr1], ?_⟩
     have hs2 := cO.out
     have hnp : ∀ b, (Value.slice pq (t.app (.node nm ks) par).ps.length fD).ownBlock = some b → (Value.slice pp t.ps.length pc).ownBlock = some b ∨ w2.heap.size ≤ b := kG.out.fN
     have hnn : ∀ b, (Value.slice nq (t.app (.node nm ks) par).ns.length fE).ownBlock = some b → (Value.slice np t.ns.length nc).ownBlock = some b ∨ w2.heap.size ≤ b := kG.out.fO
     have z7 : ∀ b, (Value.slice pq (t.app (.node nm ks) par).ps.length fD).ownBlock = some b → b ≠ tb + 1 := fun b hb => by
      rcases hnp b hb with h1 | h1
      ·have := xK.out b h1; omega
      ·omega
     have uS : ∀ b, (Value.slice nq (t.app (.node nm ks) par).ns.length fE).ownBlock = some b → b ≠ tb + 1 := fun b hb => by
      rcases hnn b hb with h1 | h1
      ·have := lQ.out b h1; omega
      ·omega
     have FJ := kG.out.size
     refine ⟨_, _, rfl, ⟨je.out.tl.bg.dz fun b hb => bD b (z7 b hb), je.out.tl.bA.dz fun b hb => bD b (uS b hb), je.out.tl.apart⟩, hos.1.trans (kG.out.os.trans gR.out.os), hos.2.1.trans (kG.out.tape.trans gR.out.tape), hos.2.2.trans (kG.out.output.trans gR.out.output), by omega, fun b hb h1 h2 h3 => ?_, fun b hb => ?_, fun b hb => ?_⟩
     ·rw [bD b (by omega), kG.out.block b (by omega) (by omega) h2 h3]
      exact gR.out.block b hb
     ·rcases hnp b hb with h1 | h1
      ·exact .inl h1
      ·exact .inr (by omega)
     ·rcases hnn b hb with h1 | h1
      ·exact .inl h1
      ·exact .inr (by omega)
end Go.Proofs.YtpnmblnahjjmhaaGreat
