/- The contract of layer 31's reference's with and number. -/
import Derived.Test.YteegefnjnikngaaGreatQ1
import Derived.Test.YteegefnjnikngaaGreatQ20
import Derived.Test.YteegefnjnikngaaGreatQ17
import Derived.Deep.CutRange
set_option maxRecDepth 100000
namespace Go.Proofs.YteegefnjnikngaaGreat
open Go.RowKit Go.Deep
structure RW (tb B0 : Nat) (w W : World) (P N Pv Nv : Value) (ps : List Int) (ns : List ByteArray) : Prop where
 gk : GK tb w W P N Pv Nv
 tl : TL B0 W Pv Nv ps ns
 same : W.heap[tb]? = w.heap[tb]?
 lo : (tb < w.heap.size ∧ P.ownBlock ≠ some tb ∧ N.ownBlock ≠ some tb) ∧ B0 ≤ w.heap.size
section
variable {tb B0 : Nat} {w W W' : World} {P N Pv Nv : Value} {ps : List Int} {ns : List ByteArray}
theorem RW.start (h : TL B0 w P N ps ns) (hl : (tb < w.heap.size ∧ P.ownBlock ≠ some tb ∧ N.ownBlock ≠ some tb) ∧ B0 ≤ w.heap.size) : RW tb B0 w w P N P N ps ns := ⟨GK.refl _ _ _ _, h, rfl, hl⟩
theorem RW.notP (h : RW tb B0 w W P N Pv Nv ps ns) : Pv.ownBlock ≠ some tb := fun e => by
 rcases h.gk.o6 tb e with h1 | h1
 ·exact h.lo.1.2.1 h1
 ·have := h.lo.1.1; omega
theorem RW.notN (h : RW tb B0 w W P N Pv Nv ps ns) : Nv.ownBlock ≠ some tb := fun e => by
 rcases h.gk.o7 tb e with h1 | h1
 ·exact h.lo.1.2.2 h1
 ·have := h.lo.1.1; omega
theorem RW.up (h : RW tb B0 w W P N Pv Nv ps ns) (hu : Up W W') : RW tb B0 w W' P N Pv Nv ps ns :=
 ⟨h.gk.up hu, h.tl.up hu, (Below.block hu tb (by have := h.gk.size; have := h.lo.1.1; omega)).trans h.same, h.lo⟩
theorem RW.AW (h : RW tb B0 w W P N Pv Nv ps ns) {g cap k : Nat} {u : Int} (ho : aA B0 3 W' (.slice (some ⟨g, 0, none⟩) k cap) (ps.map (Value.int .i64) ++ [.int .i64 u])) (hg : W.grownBy W' Pv.ownBlock) (eR : Pv.ownBlock = some g ∨ W.heap.size ≤ g) :
  RW tb B0 w W' P N (.slice (some ⟨g, 0, none⟩) k cap) Nv (ps ++ [u]) ns := by
 have hlo := h.lo
 have hsz := h.gk.size
 have hnp := h.notP
 refine ⟨⟨hg.os.trans h.gk.os, hg.tape.trans h.gk.tape, hg.output.trans h.gk.output, Nat.le_trans hsz hg.size, fun b hb h1 h2 h3 => ?_, fun b hb => ?_, h.gk.o7⟩, ⟨by rw [List.map_append]; exact ho, h.tl.dN.eV fun b hb => hg.block b (aF h.tl.dN hb).2 (fun e => h.tl.apart b e.symm hb), fun b hb hb2 => ?_⟩, (hg.block tb (by have := hlo.1.1; omega) (fun e => hnp e.symm)).trans h.same, hlo⟩
 ·rw [← h.gk.block b hb h1 h2 h3]
  refine hg.block b (by omega) fun e => ?_
  rcases h.gk.o6 b e.symm with h4 | h4
  ·exact h2 h4.symm
  ·omega
 ·injection hb with hb
  have hb : g = b := hb
  subst hb
  rcases eR with h4 | h4
  ·exact h.gk.o6 g h4
  ·exact .inr (by omega)
 ·injection hb with hb
  have hb : g = b := hb
  subst hb
  rcases eR with h1 | h1
  ·exact h.tl.apart g h1 hb2
  ·have := (aF h.tl.dN hb2).2; omega
theorem RW.AX (h : RW tb B0 w W P N Pv Nv ps ns) {g cap k : Nat} {u : ByteArray} (ho : aA B0 9 W' (.slice (some ⟨g, 0, none⟩) k cap) (ns.map Value.string ++ [.string u])) (hg : W.grownBy W' Nv.ownBlock) (eR : Nv.ownBlock = some g ∨ W.heap.size ≤ g) :
  RW tb B0 w W' P N Pv (.slice (some ⟨g, 0, none⟩) k cap) ps (ns ++ [u]) := by
 have hlo := h.lo
 have hsz := h.gk.size
 have hnn := h.notN
 refine ⟨⟨hg.os.trans h.gk.os, hg.tape.trans h.gk.tape, hg.output.trans h.gk.output, Nat.le_trans hsz hg.size, fun b hb h1 h2 h3 => ?_, h.gk.o6, fun b hb => ?_⟩, ⟨h.tl.cV.eV fun b hb => hg.block b (aF h.tl.cV hb).2 (fun e => h.tl.apart b hb e.symm), by rw [List.map_append]; exact ho, fun b hb hb2 => ?_⟩, (hg.block tb (by have := hlo.1.1; omega) (fun e => hnn e.symm)).trans h.same, hlo⟩
 ·rw [← h.gk.block b hb h1 h2 h3]
  refine hg.block b (by omega) fun e => ?_
  rcases h.gk.o7 b e.symm with h4 | h4
  ·exact h3 h4.symm
  ·omega
 ·injection hb with hb
  have hb : g = b := hb
  subst hb
  rcases eR with h4 | h4
  ·exact h.gk.o7 g h4
  ·exact .inr (by omega)
 ·injection hb2 with hb2
  have hb2 : g = b := hb2
  subst hb2
  rcases eR with h1 | h1
  ·exact h.tl.apart g hb h1
  ·have := (aF h.tl.cV hb).2; omega
theorem RW.cells {P0 N0 : Value} (h : RW tb B0 w W P N Pv Nv ps ns) (hb : w.heap[tb]? = some (Obj.cells #[P0, N0] 39 (0, 0))) :
  W.cell? ⟨tb, 0, none⟩ = some P0 ∧ W.cell? ⟨tb, 1, none⟩ = some N0 := by
 have h1 := h.same.trans hb
 exact ⟨by simp [World.cell?, h1], by simp [World.cell?, h1]⟩
theorem RW.frozen {P0 N0 : Value} (h : RW tb B0 w W P N Pv Nv ps ns) (hb : w.heap[tb]? = some (Obj.cells #[P0, N0] 39 (0, 0))) (o : Nat) : W.frozen? ⟨tb, o, none⟩ = false := by
 have h1 := h.same.trans hb
 simp [World.frozen?, h1]
end
structure GW (tb B0 : Nat) (W : World) (P N : Value) (t : ax) : Prop where
 box : W.heap[tb]? = some (Obj.cells #[P, N] 39 (0, 0))
 tl : TL B0 W P N t.ps t.ns
 lo : (P.ownBlock ≠ some tb ∧ N.ownBlock ≠ some tb) ∧ B0 ≤ W.heap.size
theorem GW.lt {tb B0 : Nat} {W : World} {P N : Value} {t : ax} (h : GW tb B0 W P N t) : tb < W.heap.size := (Array.getElem?_eq_some_iff.1 h.box).1
theorem GW.cells {tb B0 : Nat} {W : World} {P N : Value} {t : ax} (h : GW tb B0 W P N t) : W.cell? ⟨tb, 0, none⟩ = some P ∧ W.cell? ⟨tb, 1, none⟩ = some N ∧ W.frozen? ⟨tb, 0, none⟩ = false ∧ W.frozen? ⟨tb, 1, none⟩ = false := by
 refine ⟨?_, ?_, ?_, ?_⟩ <;> simp [World.cell?, World.frozen?, h.box]
theorem GW.put {tb B0 : Nat} {W X : World} {P N P' N' : Value} {t u : ax} (h : GW tb B0 W P N t) (hk : GK tb W X P N P' N') (hs : X.heap[tb]? = W.heap[tb]?) (ht : TL B0 X P' N' u.ps u.ns) :
  GW tb B0 ((X.setCell ⟨tb, 0, none⟩ P').setCell ⟨tb, 1, none⟩ N') P' N' u ∧ GK tb W ((X.setCell ⟨tb, 0, none⟩ P').setCell ⟨tb, 1, none⟩ N') P N P' N' := by
 have h1 := hs.trans h.box
 have hl := h.lt
 have hp : P'.ownBlock ≠ some tb := fun e => by
  rcases hk.o6 tb e with h2 | h2
  ·exact h.lo.1.1 h2
  ·omega
 have hn : N'.ownBlock ≠ some tb := fun e => by
  rcases hk.o7 tb e with h2 | h2
  ·exact h.lo.1.2 h2
  ·omega
 have b8 : ∀ b, b ≠ tb → ((X.setCell ⟨tb, 0, none⟩ P').setCell ⟨tb, 1, none⟩ N').heap[b]? = X.heap[b]? := fun b hb => by rw [blk_setCell_other _ _ _ _ hb, blk_setCell_other _ _ _ _ hb]
 have hsz : ((X.setCell ⟨tb, 0, none⟩ P').setCell ⟨tb, 1, none⟩ N').heap.size = X.heap.size := by simp [World.size_setCell]
 refine ⟨⟨by simp [World.setCell, Array.getElem?_modify, h1], ⟨ht.cV.eV fun b hb => b8 b (fun e => hp (by rw [hb, e])), ht.dN.eV fun b hb => b8 b (fun e => hn (by rw [hb, e])), ht.apart⟩, ⟨hp, hn⟩, by rw [hsz]; exact Nat.le_trans h.lo.2 hk.size⟩, hk.os, hk.tape, hk.output, by rw [hsz]; exact hk.size, fun b hb h2 h3 h4 => (b8 b h2).trans (hk.block b hb h2 h3 h4), hk.o6, hk.o7⟩
theorem RW.store {tb B0 : Nat} {w W : World} {P N Pv Nv : Value} {t : ax} {z : Int} {nm : ByteArray} (h0 : GW tb B0 w P N t) (h : RW tb B0 w W P N Pv Nv (t.ps ++ [z]) (t.ns ++ [nm])) :
  GW tb B0 ((W.setCell ⟨tb, 0, none⟩ Pv).setCell ⟨tb, 1, none⟩ Nv) Pv Nv (t.push z nm) ∧ GK tb w ((W.setCell ⟨tb, 0, none⟩ Pv).setCell ⟨tb, 1, none⟩ Nv) P N Pv Nv := h0.put h.gk h.same h.tl
theorem GK.keepR {tb : Nat} {w W : World} {P N P' N' : Value} (h : GK tb w W P N P' N') {S : Nat → Prop} (hS : ∀ b, S b → b < w.heap.size → b ≠ tb ∧ P.ownBlock ≠ some b ∧ N.ownBlock ≠ some b) : Kept S w W := fun b hb hl => by
 obtain ⟨h1, h2, h3⟩ := hS b hb hl
 exact h.block b hl h1 (fun e => h2 e.symm) (fun e => h3 e.symm)
def PK (B0 : Nat) (w : World) (P N : Value) (t : ax) (r : RT) (par : Int) (e : Ending) (w' : World) : Prop :=
 ∃ P' N', e = .returned (.agg #[P', N']) ∧ TL B0 w' P' N' (t.app r par).ps (t.app r par).ns ∧ GK w.heap.size w w' P N P' N'
theorem SF (t : ax) (nm : ByteArray) (ks : List RT) (par : Int) : (t.push par nm).apps ks t.ps.length = t.app (.node nm ks) par := by
 unfold ax.apps ax.app ax.push
 rw [psR, cQ]
 simp
theorem SG (t : ax) (ks : List RT) {j : Nat} (h : j < ks.length) (own : Nat) : (t.apps (ks.take j) own).app (gr ks j) (own : Int) = t.apps (ks.take (j + 1)) own := by
 have hg : gr ks j = ks[j] := by simp [gr, h]
 rw [SA, hg, List.take_succ_eq_append_getElem h]
theorem Nb (ks : List RT) {j : Nat} (h : j < ks.length) : sizeRs (ks.take j) + aI (gr ks j) ≤ sizeRs ks := by
 induction ks generalizing j with
 | nil => simp at h
 | cons k ks ih =>
  cases j with
  | zero => rw [List.take_zero, sizeRs, sizeRs]; show _ + aI k ≤ _; omega
  | succ j =>
   have := ih (j := j) (by simpa using h)
   rw [List.take_succ_cons, sizeRs, sizeRs]
   show _ + aI (gr ks j) ≤ _
   omega
theorem SH (w : World) : Up w w.drew := Up.drewN w 1
theorem zn {tb B0 : Nat} {wo w3 : World} {P N P2 N2 : Value} {T : ax} (h : GW tb B0 wo P N T) (hk : GK wo.drew.heap.size wo.drew w3 P N P2 N2) : w3.heap[tb]? = wo.heap[tb]? := by
 have hl := h.lt
 exact hk.block tb hl (fun e => by have : tb = wo.heap.size := e; omega) (fun e => h.lo.1.1 e.symm) (fun e => h.lo.1.2 e.symm)
theorem PL {tb B0 : Nat} {wo w3 : World} {P N P2 N2 : Value} {T : ax} (h : GW tb B0 wo P N T) (hk : GK wo.drew.heap.size wo.drew w3 P N P2 N2) (o : Nat) : w3.frozen? ⟨tb, o, none⟩ = false := by
 have h1 := (zn h hk).trans h.box
 simp [World.frozen?, h1]
theorem wt_gk {tb B0 : Nat} {wo w3 : World} {P N P2 N2 : Value} {T : ax} (_ : GW tb B0 wo P N T) (hk : GK wo.drew.heap.size wo.drew w3 P N P2 N2) : GK tb wo w3 P N P2 N2 :=
 ⟨hk.os, hk.tape, hk.output, hk.size, fun b hb _ h2 h3 => hk.block b hb (fun e => by have : b = wo.heap.size := e; omega) h2 h3, hk.o6, hk.o7⟩
set_option maxHeartbeats 4000000 in
theorem Zg (B0 : Nat) : ∀ (d : Nat) (r : RT), aI r ≤ d → ∀ (w : World) (P N v : Value) (t : ax) (par : Int), TL B0 w P N t.ps t.ns → B0 ≤ w.heap.size → t.ns.length = t.ps.length → t.ps.length + aI r ≤ 100000 →
  RAt (fun b => P.ownBlock ≠ some b ∧ N.ownBlock ≠ some b) w r v → Calls Tryz.prog 260 #[.agg #[P, N], v, .int .i64 par] w (PK B0 w P N t r par) := by
 intro d
 induction d with
 | zero => intro r hr; have := gW r; omega
 | succ d ih =>
 intro r hr w P N v t par Lx hB0 hnl hbd hv
 cases r with
 | node nm ks =>
  obtain ⟨xb, kp, kc, vs, rfl, hS, c0, c1, hk, hs⟩ := hv.open
  simp only [RT.nm, RT.kids] at c0 c1 hk hs
  have dY := oy ks
  rw [aI] at hr hbd
  obtain ⟨pp, pc, rfl, _, _⟩ := aD.open Lx.cV.ints
  obtain ⟨np, nc, rfl, _, _⟩ := aD.open Lx.dN.strs
  have iG := aa ih
  have iX := aa hnl
  have Zh := Up.alloc w (.cells #[.slice pp t.ps.length pc, .slice np t.ns.length nc] 39)
  have bq := Zh.trans (Up.alloc _ (.cells #[.slice none 0 0, .slice none 0 0] 39))
  have hsz : ((w.alloc (.cells #[.slice pp t.ps.length pc, .slice np t.ns.length nc] 39)).alloc (.cells #[.slice none 0 0, .slice none 0 0] 39)).heap.size = w.heap.size + 2 := by simp
  have hb1 : ((w.alloc (.cells #[.slice pp t.ps.length pc, .slice np t.ns.length nc] 39)).alloc (.cells #[.slice none 0 0, .slice none 0 0] 39)).heap[w.heap.size]? = some (Obj.cells #[.slice pp t.ps.length pc, .slice np t.ns.length nc] 39 (0, 0)) :=
   (Below.block (Up.alloc (w.alloc (.cells #[.slice pp t.ps.length pc, .slice np t.ns.length nc] 39)) _) w.heap.size (by rw [World.size_alloc]; omega)).trans (World.alloc_heap_new _ _)
  have hrb := fF (w := w.alloc (.cells #[.slice pp t.ps.length pc, .slice np t.ns.length nc] 39)) (P := .slice none 0 0) (N := .slice none 0 0) (T := 39)
  rw [World.size_alloc] at hrb
  have hpl : ∀ b, (Value.slice pp t.ps.length pc).ownBlock = some b → b < w.heap.size := fun b hb => (aF Lx.cV hb).2
  have DA : ∀ b, (Value.slice np t.ns.length nc).ownBlock = some b → b < w.heap.size := fun b hb => (aF Lx.dN hb).2
  have HG : Hid (GW w.heap.size B0 ((w.alloc (.cells #[.slice pp t.ps.length pc, .slice np t.ns.length nc] 39)).alloc (.cells #[.slice none 0 0, .slice none 0 0] 39)) (.slice pp t.ps.length pc) (.slice np t.ns.length nc) t) :=
   ⟨hb1, Lx.up bq, ⟨fun e => by have := hpl _ e; omega, fun e => by have := DA _ e; omega⟩, by omega⟩
  have fB := aa (bq.cell c0)
  have jN := aa (bq.cell c1)
  have hxl : xb < w.heap.size := World.block_lt_of_cell? w _ c0
  have PM : Hid (aD (fun b => b < w.heap.size ∧ (Value.slice pp t.ps.length pc).ownBlock ≠ some b ∧ (Value.slice np t.ns.length nc).ownBlock ≠ some b) ((w.alloc (.cells #[.slice pp t.ps.length pc, .slice np t.ns.length nc] 39)).alloc (.cells #[.slice none 0 0, .slice none 0 0] 39)) (.slice kp ks.length kc) ks.length (vN vs)) :=
   (hk.sub (T := fun b => b < w.heap.size ∧ (Value.slice pp t.ps.length pc).ownBlock ≠ some b ∧ (Value.slice np t.ns.length nc).ownBlock ≠ some b) fun b hb hl => ⟨hl, hb⟩).keep (bq.kept _)
  have Cj : Hid (RsAt (fun b => b < w.heap.size ∧ (Value.slice pp t.ps.length pc).ownBlock ≠ some b ∧ (Value.slice np t.ns.length nc).ownBlock ≠ some b) ((w.alloc (.cells #[.slice pp t.ps.length pc, .slice np t.ns.length nc] 39)).alloc (.cells #[.slice none 0 0, .slice none 0 0] 39)) ks vs) :=
   RsAt.keep (bq.kept _) ks (RsAt.sub (fun b hb hl => ⟨hl, hb⟩) ks hs)
  have jA := aa hrb
  have bQ := aa hsz
  have jC := aa bq
  have HS := aa hS
  have HPB := aa hpl
  have nw := aa DA
  have kr := aa hbd
  have G0 := aa (SF t nm ks par)
  have iT := aa dY
  have HR := aa hr
  have hb10 := HG.out.cells.1
  clear ih hv Zh bq hb1 hrb hpl DA Lx hk hs hnl c0 c1 hS hbd dY hr
  go_enter Tryz.func260, Tryz.ntmps260
  go_wp2_with fail
  clear hb10
  generalize (w.alloc (.cells #[.slice pp t.ps.length pc, .slice np t.ns.length nc] 39)).alloc (.cells #[.slice none 0 0, .slice none 0 0] 39) = w2 at *
  generalize htb : w.heap.size = tb at *
  have Zi : Hid (∀ (W : World) (P' N' : Value), GK tb w2 W (.slice pp t.ps.length pc) (.slice np t.ns.length nc) P' N' → W.cell? ⟨xb, 0, none⟩ = some (.string nm) ∧ W.cell? ⟨xb, 1, none⟩ = some (.slice kp ks.length kc)) := fun W P' N' hk => by
   have h1 := hk.block xb (by rw [bQ.out]; omega) (by omega) (fun e => HS.out.1 e.symm) (fun e => HS.out.2 e.symm)
   exact ⟨(World.cell?_of_block (a := ⟨xb, 0, none⟩) h1).trans fB.out, (World.cell?_of_block (a := ⟨xb, 1, none⟩) h1).trans jN.out⟩
  go_cut [] from 12 to 26 (fun wx => ∃ P' N', GW tb B0 wx P' N' (t.push par nm) ∧ GK tb w2 wx (.slice pp t.ps.length pc) (.slice np t.ns.length nc) P' N')
  case first =>
   have hd := Up.drewN w2 1
   have IA := aa HG.out
   have dX := aa HG.out.box
   have PN : Hid (RW tb B0 w2 w2.drew (.slice pp t.ps.length pc) (.slice np t.ns.length nc) (.slice pp t.ps.length pc) (.slice np t.ns.length nc) t.ps t.ns) := (RW.start HG.out.tl ⟨⟨HG.out.lt, HG.out.lo.1⟩, HG.out.lo.2⟩).up hd
   have nG : Hid (t.ps.length ≤ 1000000 ∧ t.ns.length ≤ 1000000) := by have := kr.out; have := iX.out; unfold Hid; omega
   have qD : Hid (∀ {W : World} {P' N' : Value} {ps' : List Int} {ns' : List ByteArray}, RW tb B0 w2 W (.slice pp t.ps.length pc) (.slice np t.ns.length nc) P' N' ps' ns' → W.cell? ⟨tb, 0, none⟩ = some (.slice pp t.ps.length pc) ∧ W.cell? ⟨tb, 1, none⟩ = some (.slice np t.ns.length nc) ∧ W.cell? ⟨xb, 0, none⟩ = some (.string nm)) :=
    fun h => ⟨(h.cells dX.out).1, (h.cells dX.out).2, (Zi.out _ _ _ h.gk).1⟩
   refine cU (by kernel_rfl) 13 (fun w' => w'.cell? ⟨tb, 0, none⟩ = some (.slice pp t.ps.length pc) ∧ w'.cell? ⟨tb, 1, none⟩ = some (.slice np t.ns.length nc) ∧ w'.cell? ⟨xb, 0, none⟩ = some (.string nm)) (qD.out PN.out) (fun hS => ?_)
   simp only [List.size_toArray, List.length_cons, List.length_nil, Nat.reduceAdd, Array.replicate_succ, Array.replicate_zero, List.push_toArray, List.nil_append, List.cons_append]
   generalize w2.drew = Wd at *
   refine af.take (i := 0) (v := ?OX) rfl (by kernel_rfl) (fun _ _ _ h => h) (by rfl) (fun w hSw => ?yu) hS ?OY
   case yu =>
    (try dsimp only at hSw)
    go_simp
    try with_reducible rfl
   try simp only [Act.put, aq, ah, au]
   refine af.take (i := 1) (v := ?OZ) rfl (by kernel_rfl) (fun _ _ _ h => h) (by rfl) (fun w hSw => ?yw) hS ?O0
   case yw =>
    (try dsimp only at hSw)
    go_simp
    try with_reducible rfl
   try simp only [Act.put, aq, ah, au]
   refine af.take (i := 2) (v := ?O1) rfl (by kernel_rfl) (fun _ _ _ h => h) (by rfl) (fun w hSw => ?yx) hS ?O2
   case yx =>
    (try dsimp only at hSw)
    go_simp
    try with_reducible rfl
   try simp only [Act.put, aq, ah, au]
   refine af.take (i := 5) (v := ?Yr) rfl (by kernel_rfl) (fun _ _ _ h => h) (by rfl) (fun w hSw => ?G4) hS ?Yt
   case G4 =>
    (try dsimp only at hSw)
    go_simp
    try with_reducible rfl
   try simp only [Act.put, aq, ah, au]
   refine af.take (i := 6) (v := ?Yu) rfl (by kernel_rfl) (fun _ _ _ h => h) (by rfl) (fun w hSw => ?G5) hS ?Yv
   case G5 =>
    (try dsimp only at hSw)
    go_simp
    try with_reducible rfl
   try simp only [Act.put, aq, ah, au]
   refine af.take (i := 7) (v := ?Ut) rfl (by kernel_rfl) (fun _ _ _ h => h) (by rfl) (fun w hSw => ?BZ) hS ?Uu
   case BZ =>
    (try dsimp only at hSw)
    go_simp
    try with_reducible rfl
   try simp only [Act.put, aq, ah, au]
   refine af.take (i := 8) (v := ?Uv) rfl (by kernel_rfl) (fun _ _ _ h => h) (by rfl) (fun w hSw => ?B1) hS ?Uw
   case B1 =>
    (try dsimp only at hSw)
    go_simp
    try with_reducible rfl
   try simp only [Act.put, aq, ah, au]
   refine af.take (i := 9) (v := ?Ux) rfl (by kernel_rfl) (fun _ _ _ h => h) (by rfl) (fun w hSw => ?B2) hS ?Uy
   case B2 =>
    (try dsimp only at hSw)
    go_simp
    try with_reducible rfl
   try simp only [Act.put, aq, ah, au]
   refine af.take (i := 10) (v := ?R3) rfl (by kernel_rfl) (fun _ _ _ h => h) (by rfl) (fun w hSw => ?AU) hS ?R4
   case AU =>
    (try dsimp only at hSw)
    go_simp
    try with_reducible rfl
   try simp only [Act.put, aq, ah, au]
   refine af.wh (i := 3) (i2 := 11) rfl rfl (by kernel_rfl) (fun K' hK => ?_) (fun K' hK => ?_)
   ·go_simp
    have Ck : Hid (RW tb B0 _ (Wd.alloc (.cells #[.int .i64 par] 3)) _ _ _ _ _ _) := PN.out.up (Up.alloc _ _)
    refine hK.out _ _ (fun _ => qD.out Ck.out) (fun _ => ?_)
    try simp only [aq, ah, au]
    refine af.wh (i := 4) (i2 := 11) rfl rfl (by kernel_rfl) (fun K' hK => ?_) (fun K' hK => ?_)
    ·refine gy (by rfl) _ _ _ (by rfl) B0 3 _ 8 Tryz.underlying26 Tryz.lK (by rfl) (by decide) (by rfl) Ck.out.tl.cV (.int .i64 par) Wd.heap.size (by rfl) (aT Wd #[.int .i64 par] 3 0) (by rfl) (by rw [List.length_map]; exact nG.out.1) (Nat.le_trans Ck.out.lo.2 Ck.out.gk.size) ?_
     intro g1 Pq kA sO kJ hrg1 _
     have sV : Hid (RW tb B0 _ kA _ _ _ _ _ _) := Ck.out.AW sO kJ (hrg1.imp id (fun e => Nat.le_of_eq e.symm))
     refine hK.out _ _ (fun _ => qD.out sV.out) (fun _ => ?_)
     try simp only [Act.put, aq, ah, au]
     refine af.free (i := 13) (v := ?gv13a) rfl (by kernel_rfl) (fun _ _ _ h => h) (by rfl) (fun w => ?gy13a) (fun _ => qD.out sV.out) ?gr13a
     case gy13a =>
      go_simp
      try with_reducible rfl
     try simp only [Act.put, aq, ah, au]
     refine af.step (i := 11) rfl (by kernel_rfl) (fun K' hK => ?_)
     go_simp
     have oz : Hid (RW tb B0 _ (kA.alloc (.cells #[.string nm] 9)) _ _ _ _ _ _) := sV.out.up (Up.alloc _ _)
     refine hK.out _ _ (fun _ => qD.out oz.out) (fun _ => ?_)
     try simp only [aq, ah, au]
     refine af.step (i := 12) rfl (by kernel_rfl) (fun K' hK => ?_)
     refine gy (by rfl) _ _ _ (by rfl) B0 9 _ 16 Tryz.underlying22 Tryz.jf (by rfl) (by decide) (by rfl) oz.out.tl.dN (.string nm) kA.heap.size (by rfl) (aT kA #[.string nm] 9 0) (by rfl) (by rw [List.length_map]; exact nG.out.2) (Nat.le_trans oz.out.lo.2 oz.out.gk.size) ?_
     intro g2 Pr fo sP od hrg2 _
     have qE : Hid (RW tb B0 _ fo _ _ _ _ _ _) := oz.out.AX sP od (hrg2.imp id (fun e => Nat.le_of_eq e.symm))
     refine hK.out _ _ (fun _ => qD.out qE.out) (fun _ => ?_)
     try simp only [Act.put, aq, ah, au]
     obtain ⟨B6, og⟩ := qE.out.cells dX.out
     have xH := qE.out.frozen dX.out 0
     have Hv := qE.out.frozen dX.out 1
     have mj := aa (qE.out.store IA.out)
     refine af.step (i := 14) rfl (by kernel_rfl) (fun K' hK => ?_)
     go_simp
     refine hK.out _ _ (aJ (by kernel_rfl)) (fun _ => ?_)
     try simp only [aq, ah, au]
     refine af.free (i := 15) (v := ?gv15a) rfl (by kernel_rfl) (fun _ _ _ h => h) (by rfl) (fun w => ?MZ) (aJ (by kernel_rfl)) ?gr15a
     case MZ =>
      go_simp
      try with_reducible rfl
     try simp only [Act.put, aq, ah, au]
     refine af.step (i := 16) rfl (by kernel_rfl) (fun K' hK => ?_)
     go_simp
     refine hK.out _ _ (aJ (by kernel_rfl)) (fun _ => ?_)
     refine af.done (by kernel_rfl) ?_
     go_wp2_with fail
     go_meet
     case rel =>
      have dG := mj.out
      simp only [List.length_map] at dG
      exact ⟨_, _, dG.1, dG.2⟩
    ·go_simp
     have sV : Hid (RW tb B0 _ ((Wd.alloc (.cells #[.int .i64 par] 3)).alloc (.cells #[.string nm] 9)) _ _ _ _ _ _) := Ck.out.up (Up.alloc _ _)
     refine hK.out _ _ (fun _ => qD.out sV.out) (fun _ => ?_)
     try simp only [aq, ah, au]
     have qY := aT (Wd.alloc (.cells #[.int .i64 par] 3)) #[.string nm] 9 0
     have kQ := (Up.alloc (Wd.alloc (.cells #[.int .i64 par] 3)) (.cells #[.string nm] 9)).cell (aT Wd #[.int .i64 par] 3 0)
     rw [World.size_alloc] at qY
     refine af.step (i := 4) rfl (by kernel_rfl) (fun K' hK => ?_)
     refine gy (by rfl) _ _ _ (by rfl) B0 3 _ 8 Tryz.underlying26 Tryz.lK (by rfl) (by decide) (by rfl) sV.out.tl.cV (.int .i64 par) Wd.heap.size (by rfl) kQ (by rfl) (by rw [List.length_map]; exact nG.out.1) (Nat.le_trans sV.out.lo.2 sV.out.gk.size) ?_
     intro g1 Pq kA sO kJ hrg1 _
     have oz : Hid (RW tb B0 _ kA _ _ _ _ _ _) := sV.out.AW sO kJ (hrg1.imp id (fun e => Nat.le_of_eq e.symm))
     have sw : kA.cell? ⟨Wd.heap.size + 1, 0, none⟩ = some (.string nm) := by
      rw [kJ.cell_far ⟨Wd.heap.size + 1, 0, none⟩ (by simp) (fun e => absurd (aF PN.out.tl.cV e.symm).2 (by show ¬ (Wd.heap.size + 1 < Wd.heap.size); omega))]; exact qY
     refine hK.out _ _ (fun _ => qD.out oz.out) (fun _ => ?_)
     try simp only [Act.put, aq, ah, au]
     refine af.free (i := 13) (v := ?gv13b) rfl (by kernel_rfl) (fun _ _ _ h => h) (by rfl) (fun w => ?gy13b) (fun _ => qD.out oz.out) ?gr13b
     case gy13b =>
      go_simp
      try with_reducible rfl
     try simp only [Act.put, aq, ah, au]
     refine af.step (i := 12) rfl (by kernel_rfl) (fun K' hK => ?_)
     refine gy (by rfl) _ _ _ (by rfl) B0 9 _ 16 Tryz.underlying22 Tryz.jf (by rfl) (by decide) (by rfl) oz.out.tl.dN (.string nm) (Wd.heap.size + 1) (by rfl) sw (by rfl) (by rw [List.length_map]; exact nG.out.2) (Nat.le_trans oz.out.lo.2 oz.out.gk.size) ?_
     intro g2 Pr fo sP od hrg2 _
     have qE : Hid (RW tb B0 _ fo _ _ _ _ _ _) := oz.out.AX sP od (hrg2.imp id (fun e => Nat.le_of_eq e.symm))
     refine hK.out _ _ (fun _ => qD.out qE.out) (fun _ => ?_)
     try simp only [Act.put, aq, ah, au]
     obtain ⟨B6, og⟩ := qE.out.cells dX.out
     have xH := qE.out.frozen dX.out 0
     have Hv := qE.out.frozen dX.out 1
     have mj := aa (qE.out.store IA.out)
     refine af.step (i := 14) rfl (by kernel_rfl) (fun K' hK => ?_)
     go_simp
     refine hK.out _ _ (aJ (by kernel_rfl)) (fun _ => ?_)
     try simp only [aq, ah, au]
     refine af.free (i := 15) (v := ?gv15b) rfl (by kernel_rfl) (fun _ _ _ h => h) (by rfl) (fun w => ?M0) (aJ (by kernel_rfl)) ?gr15b
     case M0 =>
      go_simp
      try with_reducible rfl
     try simp only [Act.put, aq, ah, au]
     refine af.step (i := 16) rfl (by kernel_rfl) (fun K' hK => ?_)
     go_simp
     refine hK.out _ _ (aJ (by kernel_rfl)) (fun _ => ?_)
     refine af.done (by kernel_rfl) ?_
     go_wp2_with fail
     go_meet
     case rel =>
      have dG := mj.out
      simp only [List.length_map] at dG
      exact ⟨_, _, dG.1, dG.2⟩
   ·go_simp
    have Ck : Hid (RW tb B0 _ (Wd.alloc (.cells #[.string nm] 9)) _ _ _ _ _ _) := PN.out.up (Up.alloc _ _)
    refine hK.out _ _ (fun _ => qD.out Ck.out) (fun _ => ?_)
    try simp only [aq, ah, au]
    refine af.step (i := 3) rfl (by kernel_rfl) (fun K' hK => ?_)
    go_simp
    have sV : Hid (RW tb B0 _ ((Wd.alloc (.cells #[.string nm] 9)).alloc (.cells #[.int .i64 par] 3)) _ _ _ _ _ _) := Ck.out.up (Up.alloc _ _)
    refine hK.out _ _ (fun _ => qD.out sV.out) (fun _ => ?_)
    try simp only [aq, ah, au]
    have kQ := aT (Wd.alloc (.cells #[.string nm] 9)) #[.int .i64 par] 3 0
    have qY := (Up.alloc (Wd.alloc (.cells #[.string nm] 9)) (.cells #[.int .i64 par] 3)).cell (aT Wd #[.string nm] 9 0)
    rw [World.size_alloc] at kQ
    refine af.step (i := 4) rfl (by kernel_rfl) (fun K' hK => ?_)
    refine gy (by rfl) _ _ _ (by rfl) B0 3 _ 8 Tryz.underlying26 Tryz.lK (by rfl) (by decide) (by rfl) sV.out.tl.cV (.int .i64 par) (Wd.heap.size + 1) (by rfl) kQ (by rfl) (by rw [List.length_map]; exact nG.out.1) (Nat.le_trans sV.out.lo.2 sV.out.gk.size) ?_
    intro g1 Pq kA sO kJ hrg1 _
    have oz : Hid (RW tb B0 _ kA _ _ _ _ _ _) := sV.out.AW sO kJ (hrg1.imp id (fun e => Nat.le_of_eq e.symm))
    have sw : kA.cell? ⟨Wd.heap.size, 0, none⟩ = some (.string nm) := by
     rw [kJ.cell_far ⟨Wd.heap.size, 0, none⟩ (by simp; omega) (fun e => absurd (aF PN.out.tl.cV e.symm).2 (by show ¬ (Wd.heap.size < Wd.heap.size); omega))]; exact qY
    refine hK.out _ _ (fun _ => qD.out oz.out) (fun _ => ?_)
    try simp only [Act.put, aq, ah, au]
    refine af.free (i := 13) (v := ?gv13c) rfl (by kernel_rfl) (fun _ _ _ h => h) (by rfl) (fun w => ?gy13c) (fun _ => qD.out oz.out) ?gr13c
    case gy13c =>
     go_simp
     try with_reducible rfl
    try simp only [Act.put, aq, ah, au]
    refine af.step (i := 12) rfl (by kernel_rfl) (fun K' hK => ?_)
    refine gy (by rfl) _ _ _ (by rfl) B0 9 _ 16 Tryz.underlying22 Tryz.jf (by rfl) (by decide) (by rfl) oz.out.tl.dN (.string nm) Wd.heap.size (by rfl) sw (by rfl) (by rw [List.length_map]; exact nG.out.2) (Nat.le_trans oz.out.lo.2 oz.out.gk.size) ?_
    intro g2 Pr fo sP od hrg2 _
    have qE : Hid (RW tb B0 _ fo _ _ _ _ _ _) := oz.out.AX sP od (hrg2.imp id (fun e => Nat.le_of_eq e.symm))
    refine hK.out _ _ (fun _ => qD.out qE.out) (fun _ => ?_)
    try simp only [Act.put, aq, ah, au]
    obtain ⟨B6, og⟩ := qE.out.cells dX.out
    have xH := qE.out.frozen dX.out 0
    have Hv := qE.out.frozen dX.out 1
    have mj := aa (qE.out.store IA.out)
    refine af.step (i := 14) rfl (by kernel_rfl) (fun K' hK => ?_)
    go_simp
    refine hK.out _ _ (aJ (by kernel_rfl)) (fun _ => ?_)
    try simp only [aq, ah, au]
    refine af.free (i := 15) (v := ?gv15c) rfl (by kernel_rfl) (fun _ _ _ h => h) (by rfl) (fun w => ?M3) (aJ (by kernel_rfl)) ?gr15c
    case M3 =>
     go_simp
     try with_reducible rfl
    try simp only [Act.put, aq, ah, au]
    refine af.step (i := 16) rfl (by kernel_rfl) (fun K' hK => ?_)
    go_simp
    refine hK.out _ _ (aJ (by kernel_rfl)) (fun _ => ?_)
    refine af.done (by kernel_rfl) ?_
    go_wp2_with fail
    go_meet
    case rel =>
     have dG := mj.out
     simp only [List.length_map] at dG
     exact ⟨_, _, dG.1, dG.2⟩
  case rest =>
   obtain ⟨P1, N1, hG1, Uq⟩ := hcut
   have HG1 := aa hG1
   have B5 := aa Uq
   have GC : Hid ((t.push par nm).apps (ks.take 0) t.ps.length = t.push par nm) := Sz _ _
   clear hG1 Uq
   go_wp2_with fail
   go_loopw [8] (fun i wr => ∃ (j : Nat) (P' N' : Value), j ≤ ks.length ∧ i = .int .i64 j ∧ Hid (GW tb B0 wr P' N' ((t.push par nm).apps (ks.take j) t.ps.length)) ∧ Hid (GK tb w2 wr (.slice pp t.ps.length pc) (.slice np t.ns.length nc) P' N')) (fun i _ => ks.length - (intOf i).toNat)
   case atStart => exact ⟨0, P1, N1, Nat.zero_le _, rfl, by rw [GC.out]; exact HG1.out, B5.out⟩
   case round =>
    obtain ⟨j, P', N', hj, rfl, Cl, Cm⟩ := hrel
    obtain ⟨wo, rfl⟩ : ∃ wo : World, wo = wr := ⟨_, rfl⟩
    have hx := Zi.out _ _ _ Cm.out
    have hx1 := hx.2
    by_cases hlt : j < ks.length
    ·have hcs := Cl.out.cells
     have hkr : Kept (fun b => b < tb ∧ (Value.slice pp t.ps.length pc).ownBlock ≠ some b ∧ (Value.slice np t.ns.length nc).ownBlock ≠ some b) w2 wo := Cm.out.keepR fun b hb _ => ⟨by omega, hb.2⟩
     obtain ⟨kb, ko, rfl, hkc⟩ := oo (PM.out.keep hkr) hlt
     have Cn := RAt.keep hkr _ (RsAt.get ks Cj.out j hlt)
     have Zj : RAt (fun b => P'.ownBlock ≠ some b ∧ N'.ownBlock ≠ some b) wo (gr ks j) (vN vs j) := RAt.sub (fun b hb hl => ⟨fun e => by
      rcases Cm.out.o6 b e with h1 | h1
      ·exact hb.2.1 h1
      ·have := hb.1; have := bQ.out; omega, fun e => by
      rcases Cm.out.o7 b e with h1 | h1
      ·exact hb.2.2 h1
      ·have := hb.1; have := bQ.out; omega⟩) _ Cn
     have hgs := rW hlt
     obtain ⟨T, hT⟩ : ∃ T, T = (t.push par nm).apps (ks.take j) t.ps.length := ⟨_, rfl⟩
     have PO : Hid (T.app (gr ks j) (t.ps.length : Int) = (t.push par nm).apps (ks.take (j + 1)) t.ps.length) := by rw [hT]; exact SG _ _ hlt _
     have htl : T.ps.length = t.ps.length + 1 + sizeRs (ks.take j) ∧ T.ns.length = t.ns.length + 1 + sizeRs (ks.take j) := by
      rw [hT]; unfold ax.apps ax.push
      simp only [List.length_append, List.length_cons, List.length_nil, pE, A3]
      exact ⟨trivial, trivial⟩
     have hsz2 := Nb ks hlt
     rw [← hT] at Cl
     have dO : Hid (∀ W, Up wo W → Calls Tryz.prog 260 #[.agg #[P', N'], vN vs j, .int .i64 (t.ps.length : Nat)] W (PK B0 W P' N' T (gr ks j) (t.ps.length : Nat))) := fun W hW =>
      iG.out (gr ks j) (by have := HR.out; omega) W P' N' (vN vs j) T _ (Cl.out.tl.up hW) (Nat.le_trans Cl.out.lo.2 hW.size) (by have := iX.out; omega) (by have := kr.out; omega) (RAt.keep (hW.kept _) _ Zj)
     have E1 := aa Cl.out
     have HKJ := aa Cm.out
     have i1 : (0 : Int) ≤ (j : Int) := by omega
     have i2 : (j : Int) < (ks.length : Int) := by omega
     have i3 : (j : Int) < 1000000 := by have := iT.out; have := kr.out; omega
     have aY := aa hlt
     have a0 := hcs.1
     have a1 := hcs.2.1
     clear hT htl hgs Cn Zj hkr hcs hx Cl Cm hsz2 hlt hj
     generalize vN vs j = kv at *
     generalize gr ks j = r at *
     go_wp2_with fail
     refine cU (by kernel_rfl) 10 (fun w' => w'.cell? ⟨tb, 0, none⟩ = some P' ∧ w'.cell? ⟨tb, 1, none⟩ = some N' ∧ w'.cell? ⟨xb, 1, none⟩ = some (.slice (some ⟨kb, ko, none⟩) ks.length kc) ∧ w'.cell? ⟨kb, ko + j, none⟩ = some kv) ⟨a0, a1, hx1, hkc⟩ (fun hS => ?_)
     simp only [List.size_toArray, List.length_cons, List.length_nil, Nat.reduceAdd, Array.replicate_succ, Array.replicate_zero, List.push_toArray, List.nil_append, List.cons_append]
     refine af.take (i := 0) (v := ?qc) rfl (by kernel_rfl) (fun _ _ _ h => h) (by rfl) (fun w hSw => ?gp) hS ?qd
     case gp =>
      (try dsimp only at hSw)
      go_simp
      try with_reducible rfl
     try simp only [Act.put, aq, ah, au]
     refine af.take (i := 1) (v := ?qf) rfl (by kernel_rfl) (fun _ _ _ h => h) (by rfl) (fun w hSw => ?gq) hS ?qg
     case gq =>
      (try dsimp only at hSw)
      go_simp
      try with_reducible rfl
     try simp only [Act.put, aq, ah, au]
     refine af.take (i := 2) (v := ?rG) rfl (by kernel_rfl) (fun _ _ _ h => h) (by rfl) (fun w hSw => ?gN) hS ?rH
     case gN =>
      (try dsimp only at hSw)
      go_simp
      try with_reducible rfl
     try simp only [Act.put, aq, ah, au]
     refine af.take (i := 3) (v := ?rI) rfl (by kernel_rfl) (fun _ _ _ h => h) (by rfl) (fun w hSw => ?gO) hS ?rJ
     case gO =>
      (try dsimp only at hSw)
      go_simp
      try with_reducible rfl
     try simp only [Act.put, aq, ah, au]
     refine af.take (i := 4) (v := ?rK) rfl (by kernel_rfl) (fun _ _ _ h => h) (by rfl) (fun w hSw => ?gP) hS ?rL
     case gP =>
      (try dsimp only at hSw)
      go_simp
      try with_reducible rfl
     try simp only [Act.put, aq, ah, au]
     refine af.take (i := 5) (v := ?rM) rfl (by kernel_rfl) (fun _ _ _ h => h) (by rfl) (fun w hSw => ?gQ) hS ?rN
     case gQ =>
      (try dsimp only at hSw)
      go_simp
      try with_reducible rfl
     try simp only [Act.put, aq, ah, au]
     refine af.take (i := 6) (v := ?zo) rfl (by kernel_rfl) (fun _ _ _ h => h) (by rfl) (fun w hSw => ?lX) hS ?zq
     case lX =>
      (try dsimp only at hSw)
      go_simp
      try with_reducible rfl
     try simp only [Act.put, aq, ah, au]
     refine af.take (i := 7) (v := ?Co) rfl (by kernel_rfl) (fun _ _ _ h => h) (by rfl) (fun w hSw => ?oA) hS ?Cq
     case oA =>
      (try dsimp only at hSw)
      go_simp
      try with_reducible rfl
     try simp only [Act.put, aq, ah, au]
     refine af.take (i := 8) (v := ?F5) rfl (by kernel_rfl) (fun _ _ _ h => h) (by rfl) (fun w hSw => ?rO) hS ?F6
     case rO =>
      (try dsimp only at hSw)
      go_simp
      try with_reducible rfl
     try simp only [Act.put, aq, ah, au]
     refine af.step (i := 9) rfl (by kernel_rfl) (fun K' hK => ?_)
     go_simp
     refine (dO.out _ (SH wo)).mono ?_
     rintro e w3 ⟨P2, N2, rfl, E2, hK3⟩
     obtain ⟨p2, c2, rfl, _, _⟩ := aD.open E2.cV.ints
     obtain ⟨q2, e2, rfl, _, _⟩ := aD.open E2.dN.strs
     have hfz := PL E1.out hK3
     have B7 := hfz 0
     have vg := hfz 1
     have hw0 : w3.cell? ⟨tb, 0, none⟩ = some P' := (World.cell?_of_block (a := ⟨tb, 0, none⟩) (zn E1.out hK3)).trans E1.out.cells.1
     have hw1 : w3.cell? ⟨tb, 1, none⟩ = some N' := (World.cell?_of_block (a := ⟨tb, 1, none⟩) (zn E1.out hK3)).trans E1.out.cells.2.1
     have Zk := aa (E1.out.put (u := T.app r (t.ps.length : Int)) (wt_gk E1.out hK3) (zn E1.out hK3) E2)
     clear hfz E2 hK3
     refine hK.out _ _ (aJ (by kernel_rfl)) (fun hS => ?_)
     try simp only [aq, ah, au]
     refine af.step (i := 10) rfl (by kernel_rfl) (fun K' hK => ?_)
     go_simp
     refine hK.out _ _ (aJ (by kernel_rfl)) (fun hS => ?_)
     refine af.done (by kernel_rfl) ?_
     go_wp2_with fail
     go_roundw
     case rel => exact ⟨j + 1, _, _, aY.out, by go_num, by rw [← PO.out]; exact Zk.out.1, HKJ.out.trans Zk.out.2⟩
     case measure => have := aY.out; simp [intOf]; omega
    ·obtain rfl : j = ks.length := by omega
     have hcs := Cl.out.cells
     have a0 := hcs.1
     have a1 := hcs.2.1
     have hrb : wo.heap[tb + 1]? = some (Obj.cells #[.slice none 0 0, .slice none 0 0] 39 (0, 0)) :=
      (Cm.out.block (tb + 1) (by rw [bQ.out]; omega) (by omega) (fun e => by have := HPB.out _ e.symm; omega) (fun e => by have := nw.out _ e.symm; omega)).trans jA.out
     obtain ⟨r0, r1, r2, r3⟩ : wo.cell? ⟨tb + 1, 0, none⟩ = some (.slice none 0 0) ∧ wo.cell? ⟨tb + 1, 1, none⟩ = some (.slice none 0 0) ∧ wo.frozen? ⟨tb + 1, 0, none⟩ = false ∧ wo.frozen? ⟨tb + 1, 1, none⟩ = false := by
      refine ⟨?_, ?_, ?_, ?_⟩ <;> simp [World.cell?, World.frozen?, hrb]
     have PR := Cl.out
     rw [List.take_length, G0.out] at PR
     have Zl := aa PR
     have IB := aa Cm.out
     obtain ⟨pq, xJ, rfl, _, _⟩ := aD.open PR.tl.cV.ints
     obtain ⟨nq, xK, rfl, _, _⟩ := aD.open PR.tl.dN.strs
     have HRBX := aa hrb
     clear hcs Cl Cm PR hx hlt hj hrb
     go_wp2_with fail
     have b8 : ∀ b, b ≠ tb + 1 → ((wo.setCell ⟨tb + 1, 0, none⟩ (.slice pq (t.app (.node nm ks) par).ps.length xJ)).setCell ⟨tb + 1, 1, none⟩ (.slice nq (t.app (.node nm ks) par).ns.length xK)).heap[b]? = wo.heap[b]? := fun b hb => by rw [blk_setCell_other _ _ _ _ hb, blk_setCell_other _ _ _ _ hb]
     have hheap : ((wo.setCell ⟨tb + 1, 0, none⟩ (.slice pq (t.app (.node nm ks) par).ps.length xJ)).setCell ⟨tb + 1, 1, none⟩ (.slice nq (t.app (.node nm ks) par).ns.length xK)).heap[tb + 1]? = some (Obj.cells #[.slice pq (t.app (.node nm ks) par).ps.length xJ, .slice nq (t.app (.node nm ks) par).ns.length xK] 39 (0, 0)) := by
      simp [World.setCell, Array.getElem?_modify, HRBX.out]
     have OO : ((wo.setCell ⟨tb + 1, 0, none⟩ (.slice pq (t.app (.node nm ks) par).ps.length xJ)).setCell ⟨tb + 1, 1, none⟩ (.slice nq (t.app (.node nm ks) par).ns.length xK)).heap.size = wo.heap.size := by simp [World.size_setCell]
     have hos : ((wo.setCell ⟨tb + 1, 0, none⟩ (.slice pq (t.app (.node nm ks) par).ps.length xJ)).setCell ⟨tb + 1, 1, none⟩ (.slice nq (t.app (.node nm ks) par).ns.length xK)).os = wo.os ∧ ((wo.setCell ⟨tb + 1, 0, none⟩ (.slice pq (t.app (.node nm ks) par).ps.length xJ)).setCell ⟨tb + 1, 1, none⟩ (.slice nq (t.app (.node nm ks) par).ns.length xK)).tape = wo.tape ∧ ((wo.setCell ⟨tb + 1, 0, none⟩ (.slice pq (t.app (.node nm ks) par).ps.length xJ)).setCell ⟨tb + 1, 1, none⟩ (.slice nq (t.app (.node nm ks) par).ns.length xK)).output = wo.output := ⟨rfl, rfl, rfl⟩
     generalize (wo.setCell ⟨tb + 1, 0, none⟩ (.slice pq (t.app (.node nm ks) par).ps.length xJ)).setCell ⟨tb + 1, 1, none⟩ (.slice nq (t.app (.node nm ks) par).ns.length xK) = wf at *
     have kN : wf.cell? ⟨tb + 1, 0, none⟩ = some (.slice pq (t.app (.node nm ks) par).ps.length xJ) := by simp [World.cell?, hheap]
     have hr1 : wf.cell? ⟨tb + 1, 1, none⟩ = some (.slice nq (t.app (.node nm ks) par).ns.length xK) := by simp [World.cell?, hheap]
     refine ⟨rfl, .agg #[.slice pq (t.app (.node nm ks) par).ps.length xJ, .slice nq (t.app (.node nm ks) par).ns.length xK], by simp [results, Tryz.results260, go_sem, kN, hr1], ?_⟩
     have hs2 := bQ.out
     have hnp : ∀ b, (Value.slice pq (t.app (.node nm ks) par).ps.length xJ).ownBlock = some b → (Value.slice pp t.ps.length pc).ownBlock = some b ∨ w2.heap.size ≤ b := IB.out.o6
     have hnn : ∀ b, (Value.slice nq (t.app (.node nm ks) par).ns.length xK).ownBlock = some b → (Value.slice np t.ns.length nc).ownBlock = some b ∨ w2.heap.size ≤ b := IB.out.o7
     have Sl : ∀ b, (Value.slice pq (t.app (.node nm ks) par).ps.length xJ).ownBlock = some b → b ≠ tb + 1 := fun b hb => by
      rcases hnp b hb with h1 | h1
      ·have := HPB.out b h1; omega
      ·omega
     have Di : ∀ b, (Value.slice nq (t.app (.node nm ks) par).ns.length xK).ownBlock = some b → b ≠ tb + 1 := fun b hb => by
      rcases hnn b hb with h1 | h1
      ·have := nw.out b h1; omega
      ·omega
     have Eo := IB.out.size
     refine ⟨_, _, rfl, ⟨Zl.out.tl.cV.eV fun b hb => b8 b (Sl b hb), Zl.out.tl.dN.eV fun b hb => b8 b (Di b hb), Zl.out.tl.apart⟩, hos.1.trans (IB.out.os.trans jC.out.os), hos.2.1.trans (IB.out.tape.trans jC.out.tape), hos.2.2.trans (IB.out.output.trans jC.out.output), by omega, fun b hb h1 h2 h3 => ?_, fun b hb => ?_, fun b hb => ?_⟩
     ·rw [b8 b (by omega), IB.out.block b (by omega) (by omega) h2 h3]
      exact jC.out.block b hb
     ·rcases hnp b hb with h1 | h1
      ·exact .inl h1
      ·exact .inr (by omega)
     ·rcases hnn b hb with h1 | h1
      ·exact .inl h1
      ·exact .inr (by omega)
end Go.Proofs.YteegefnjnikngaaGreat
