/- The contract of layer 31's reference's with and number. -/
import Derived.Test.YteegefnjnikngaaGreatQ1
import Derived.Test.YteegefnjnikngaaGreatQ19
import Derived.Test.YteegefnjnikngaaGreatQ16
import Derived.Deep.CutRange
set_option maxRecDepth 100000
namespace Go.Proofs.YteegefnjnikngaaGreat
open Go.RowKit Go.Deep
structure RW (tb B0 : Nat) (w W : World) (P N Pv Nv : Value) (ps : List Int) (ns : List ByteArray) : Prop where
 gk : GK tb w W P N Pv Nv
 tl : TL B0 W Pv Nv ps ns
 same : W.heap[tb]? = w.heap[tb]?
 lo : (tb < w.heap.size ∧ P.ownBlock ≠ some tb ∧ N.ownBlock ≠ some tb) ∧ B0 ≤ w.heap.size
section
variable {tb B0 : Nat} {w W W' : World} {P N Pv Nv : Value} {ps : List Int} {ns : List ByteArray}
theorem RW.start (h : TL B0 w P N ps ns) (hl : (tb < w.heap.size ∧ P.ownBlock ≠ some tb ∧ N.ownBlock ≠ some tb) ∧ B0 ≤ w.heap.size) : RW tb B0 w w P N P N ps ns := ⟨GK.refl _ _ _ _, h, rfl, hl⟩
theorem RW.notP (h : RW tb B0 w W P N Pv Nv ps ns) : Pv.ownBlock ≠ some tb := fun e => by
 rcases h.gk.mj tb e with h1 | h1
 ·exact h.lo.1.2.1 h1
 ·have := h.lo.1.1; omega
theorem RW.notN (h : RW tb B0 w W P N Pv Nv ps ns) : Nv.ownBlock ≠ some tb := fun e => by
 rcases h.gk.mm tb e with h1 | h1
 ·exact h.lo.1.2.2 h1
 ·have := h.lo.1.1; omega
theorem RW.up (h : RW tb B0 w W P N Pv Nv ps ns) (hu : Up W W') : RW tb B0 w W' P N Pv Nv ps ns :=
 ⟨h.gk.up hu, h.tl.up hu, (Below.block hu tb (by have := h.gk.size; have := h.lo.1.1; omega)).trans h.same, h.lo⟩
theorem RW.xB (h : RW tb B0 w W P N Pv Nv ps ns) {g cap k : Nat} {u : Int} (ho : az B0 3 W' (.slice (some ⟨g, 0, none⟩) k cap) (ps.map (Value.int .i64) ++ [.int .i64 u])) (hg : W.grownBy W' Pv.ownBlock) (dw : Pv.ownBlock = some g ∨ W.heap.size ≤ g) :
  RW tb B0 w W' P N (.slice (some ⟨g, 0, none⟩) k cap) Nv (ps ++ [u]) ns := by
 have hlo := h.lo
 have hsz := h.gk.size
 have hnp := h.notP
 refine ⟨⟨hg.os.trans h.gk.os, hg.tape.trans h.gk.tape, hg.output.trans h.gk.output, Nat.le_trans hsz hg.size, fun b hb h1 h2 h3 => ?_, fun b hb => ?_, h.gk.mm⟩, ⟨by rw [List.map_append]; exact ho, h.tl.cG.eV fun b hb => hg.block b (aD h.tl.cG hb).2 (fun e => h.tl.apart b e.symm hb), fun b hb hb2 => ?_⟩, (hg.block tb (by have := hlo.1.1; omega) (fun e => hnp e.symm)).trans h.same, hlo⟩
 ·rw [← h.gk.block b hb h1 h2 h3]
  refine hg.block b (by omega) fun e => ?_
  rcases h.gk.mj b e.symm with h4 | h4
  ·exact h2 h4.symm
  ·omega
 ·injection hb with hb
  have hb : g = b := hb
  subst hb
  rcases dw with h4 | h4
  ·exact h.gk.mj g h4
  ·exact .inr (by omega)
 ·injection hb with hb
  have hb : g = b := hb
  subst hb
  rcases dw with h1 | h1
  ·exact h.tl.apart g h1 hb2
  ·have := (aD h.tl.cG hb2).2; omega
theorem RW.xC (h : RW tb B0 w W P N Pv Nv ps ns) {g cap k : Nat} {u : ByteArray} (ho : az B0 9 W' (.slice (some ⟨g, 0, none⟩) k cap) (ns.map Value.string ++ [.string u])) (hg : W.grownBy W' Nv.ownBlock) (dw : Nv.ownBlock = some g ∨ W.heap.size ≤ g) :
  RW tb B0 w W' P N Pv (.slice (some ⟨g, 0, none⟩) k cap) ps (ns ++ [u]) := by
 have hlo := h.lo
 have hsz := h.gk.size
 have hnn := h.notN
 refine ⟨⟨hg.os.trans h.gk.os, hg.tape.trans h.gk.tape, hg.output.trans h.gk.output, Nat.le_trans hsz hg.size, fun b hb h1 h2 h3 => ?_, h.gk.mj, fun b hb => ?_⟩, ⟨h.tl.cg.eV fun b hb => hg.block b (aD h.tl.cg hb).2 (fun e => h.tl.apart b hb e.symm), by rw [List.map_append]; exact ho, fun b hb hb2 => ?_⟩, (hg.block tb (by have := hlo.1.1; omega) (fun e => hnn e.symm)).trans h.same, hlo⟩
 ·rw [← h.gk.block b hb h1 h2 h3]
  refine hg.block b (by omega) fun e => ?_
  rcases h.gk.mm b e.symm with h4 | h4
  ·exact h3 h4.symm
  ·omega
 ·injection hb with hb
  have hb : g = b := hb
  subst hb
  rcases dw with h4 | h4
  ·exact h.gk.mm g h4
  ·exact .inr (by omega)
 ·injection hb2 with hb2
  have hb2 : g = b := hb2
  subst hb2
  rcases dw with h1 | h1
  ·exact h.tl.apart g hb h1
  ·have := (aD h.tl.cg hb).2; omega
theorem RW.cells {P0 N0 : Value} (h : RW tb B0 w W P N Pv Nv ps ns) (hb : w.heap[tb]? = some (Obj.cells #[P0, N0] 39 (0, 0))) :
  W.cell? ⟨tb, 0, none⟩ = some P0 ∧ W.cell? ⟨tb, 1, none⟩ = some N0 := by
 have h1 := h.same.trans hb
 exact ⟨by simp [World.cell?, h1], by simp [World.cell?, h1]⟩
theorem RW.frozen {P0 N0 : Value} (h : RW tb B0 w W P N Pv Nv ps ns) (hb : w.heap[tb]? = some (Obj.cells #[P0, N0] 39 (0, 0))) (o : Nat) : W.frozen? ⟨tb, o, none⟩ = false := by
 have h1 := h.same.trans hb
 simp [World.frozen?, h1]
end
structure GW (tb B0 : Nat) (W : World) (P N : Value) (t : av) : Prop where
 box : W.heap[tb]? = some (Obj.cells #[P, N] 39 (0, 0))
 tl : TL B0 W P N t.ps t.ns
 lo : (P.ownBlock ≠ some tb ∧ N.ownBlock ≠ some tb) ∧ B0 ≤ W.heap.size
theorem GW.lt {tb B0 : Nat} {W : World} {P N : Value} {t : av} (h : GW tb B0 W P N t) : tb < W.heap.size := (Array.getElem?_eq_some_iff.1 h.box).1
theorem GW.cells {tb B0 : Nat} {W : World} {P N : Value} {t : av} (h : GW tb B0 W P N t) : W.cell? ⟨tb, 0, none⟩ = some P ∧ W.cell? ⟨tb, 1, none⟩ = some N ∧ W.frozen? ⟨tb, 0, none⟩ = false ∧ W.frozen? ⟨tb, 1, none⟩ = false := by
 refine ⟨?_, ?_, ?_, ?_⟩ <;> simp [World.cell?, World.frozen?, h.box]
theorem GW.put {tb B0 : Nat} {W X : World} {P N P' N' : Value} {t u : av} (h : GW tb B0 W P N t) (hk : GK tb W X P N P' N') (hs : X.heap[tb]? = W.heap[tb]?) (ht : TL B0 X P' N' u.ps u.ns) :
  GW tb B0 ((X.setCell ⟨tb, 0, none⟩ P').setCell ⟨tb, 1, none⟩ N') P' N' u ∧ GK tb W ((X.setCell ⟨tb, 0, none⟩ P').setCell ⟨tb, 1, none⟩ N') P N P' N' := by
 have h1 := hs.trans h.box
 have hl := h.lt
 have hp : P'.ownBlock ≠ some tb := fun e => by
  rcases hk.mj tb e with h2 | h2
  ·exact h.lo.1.1 h2
  ·omega
 have hn : N'.ownBlock ≠ some tb := fun e => by
  rcases hk.mm tb e with h2 | h2
  ·exact h.lo.1.2 h2
  ·omega
 have b8 : ∀ b, b ≠ tb → ((X.setCell ⟨tb, 0, none⟩ P').setCell ⟨tb, 1, none⟩ N').heap[b]? = X.heap[b]? := fun b hb => by rw [blk_setCell_other _ _ _ _ hb, blk_setCell_other _ _ _ _ hb]
 have hsz : ((X.setCell ⟨tb, 0, none⟩ P').setCell ⟨tb, 1, none⟩ N').heap.size = X.heap.size := by simp [World.size_setCell]
 refine ⟨⟨by simp [World.setCell, Array.getElem?_modify, h1], ⟨ht.cg.eV fun b hb => b8 b (fun e => hp (by rw [hb, e])), ht.cG.eV fun b hb => b8 b (fun e => hn (by rw [hb, e])), ht.apart⟩, ⟨hp, hn⟩, by rw [hsz]; exact Nat.le_trans h.lo.2 hk.size⟩, hk.os, hk.tape, hk.output, by rw [hsz]; exact hk.size, fun b hb h2 h3 h4 => (b8 b h2).trans (hk.block b hb h2 h3 h4), hk.mj, hk.mm⟩
theorem RW.store {tb B0 : Nat} {w W : World} {P N Pv Nv : Value} {t : av} {z : Int} {nm : ByteArray} (h0 : GW tb B0 w P N t) (h : RW tb B0 w W P N Pv Nv (t.ps ++ [z]) (t.ns ++ [nm])) :
  GW tb B0 ((W.setCell ⟨tb, 0, none⟩ Pv).setCell ⟨tb, 1, none⟩ Nv) Pv Nv (t.push z nm) ∧ GK tb w ((W.setCell ⟨tb, 0, none⟩ Pv).setCell ⟨tb, 1, none⟩ Nv) P N Pv Nv := h0.put h.gk h.same h.tl
theorem GK.WQ {tb : Nat} {w W : World} {P N P' N' : Value} (h : GK tb w W P N P' N') {S : Nat → Prop} (hS : ∀ b, S b → b < w.heap.size → b ≠ tb ∧ P.ownBlock ≠ some b ∧ N.ownBlock ≠ some b) : Kept S w W := fun b hb hl => by
 obtain ⟨h1, h2, h3⟩ := hS b hb hl
 exact h.block b hl h1 (fun e => h2 e.symm) (fun e => h3 e.symm)
def KP (B0 : Nat) (w : World) (P N : Value) (t : av) (r : RT) (par : Int) (e : Ending) (w' : World) : Prop :=
 ∃ P' N', e = .returned (.agg #[P', N']) ∧ TL B0 w' P' N' (t.app r par).ps (t.app r par).ns ∧ GK w.heap.size w w' P N P' N'
theorem Ns (t : av) (nm : ByteArray) (ks : List RT) (par : Int) : (t.push par nm).apps ks t.ps.length = t.app (.node nm ks) par := by
 unfold av.apps av.app av.push
 rw [psR, b7]
 simp
theorem Nt (t : av) (ks : List RT) {j : Nat} (h : j < ks.length) (own : Nat) : (t.apps (ks.take j) own).app (gr ks j) (own : Int) = t.apps (ks.take (j + 1)) own := by
 have hg : gr ks j = ks[j] := by simp [gr, h]
 rw [Np, hg, List.take_succ_eq_append_getElem h]
theorem IB (ks : List RT) {j : Nat} (h : j < ks.length) : sizeRs (ks.take j) + aG (gr ks j) ≤ sizeRs ks := by
 induction ks generalizing j with
 | nil => simp at h
 | cons k ks ih =>
  cases j with
  | zero => rw [List.take_zero, sizeRs, sizeRs]; show _ + aG k ≤ _; omega
  | succ j =>
   have := ih (j := j) (by simpa using h)
   rw [List.take_succ_cons, sizeRs, sizeRs]
   show _ + aG (gr ks j) ≤ _
   omega
theorem Nu (w : World) : Up w w.drew := Up.drewN w 1
theorem vD {tb B0 : Nat} {wo w3 : World} {P N P2 N2 : Value} {T : av} (h : GW tb B0 wo P N T) (hk : GK wo.drew.heap.size wo.drew w3 P N P2 N2) : w3.heap[tb]? = wo.heap[tb]? := by
 have hl := h.lt
 exact hk.block tb hl (fun e => by have : tb = wo.heap.size := e; omega) (fun e => h.lo.1.1 e.symm) (fun e => h.lo.1.2 e.symm)
theorem KQ {tb B0 : Nat} {wo w3 : World} {P N P2 N2 : Value} {T : av} (h : GW tb B0 wo P N T) (hk : GK wo.drew.heap.size wo.drew w3 P N P2 N2) (o : Nat) : w3.frozen? ⟨tb, o, none⟩ = false := by
 have h1 := (vD h hk).trans h.box
 simp [World.frozen?, h1]
theorem WR {tb B0 : Nat} {wo w3 : World} {P N P2 N2 : Value} {T : av} (_ : GW tb B0 wo P N T) (hk : GK wo.drew.heap.size wo.drew w3 P N P2 N2) : GK tb wo w3 P N P2 N2 :=
 ⟨hk.os, hk.tape, hk.output, hk.size, fun b hb _ h2 h3 => hk.block b hb (fun e => by have : b = wo.heap.size := e; omega) h2 h3, hk.mj, hk.mm⟩
set_option maxHeartbeats 4000000 in
theorem Ty (B0 : Nat) : ∀ (d : Nat) (r : RT), aG r ≤ d → ∀ (w : World) (P N v : Value) (t : av) (par : Int), TL B0 w P N t.ps t.ns → B0 ≤ w.heap.size → t.ns.length = t.ps.length → t.ps.length + aG r ≤ 100000 →
  RAt (fun b => P.ownBlock ≠ some b ∧ N.ownBlock ≠ some b) w r v → Calls Tryz.prog 260 #[.agg #[P, N], v, .int .i64 par] w (KP B0 w P N t r par) := by
 intro d
 induction d with
 | zero => intro r hr; have := jl r; omega
 | succ d ih =>
 intro r hr w P N v t par Gx hB0 hnl hbd hv
 cases r with
 | node nm ks =>
  obtain ⟨xb, kp, kc, vs, rfl, hS, c0, c1, hk, hs⟩ := hv.open
  simp only [RT.nm, RT.kids] at c0 c1 hk hs
  have eF := lH ks
  rw [aG] at hr hbd
  obtain ⟨pp, pc, rfl, _, _⟩ := aA.open Gx.cg.ints
  obtain ⟨np, nc, rfl, _, _⟩ := aA.open Gx.cG.strs
  have ir := aa ih
  have lI := aa hnl
  have Tz := Up.alloc w (.cells #[.slice pp t.ps.length pc, .slice np t.ns.length nc] 39)
  have aZ := Tz.trans (Up.alloc _ (.cells #[.slice none 0 0, .slice none 0 0] 39))
  have hsz : ((w.alloc (.cells #[.slice pp t.ps.length pc, .slice np t.ns.length nc] 39)).alloc (.cells #[.slice none 0 0, .slice none 0 0] 39)).heap.size = w.heap.size + 2 := by simp
  have hb1 : ((w.alloc (.cells #[.slice pp t.ps.length pc, .slice np t.ns.length nc] 39)).alloc (.cells #[.slice none 0 0, .slice none 0 0] 39)).heap[w.heap.size]? = some (Obj.cells #[.slice pp t.ps.length pc, .slice np t.ns.length nc] 39 (0, 0)) :=
   (Below.block (Up.alloc (w.alloc (.cells #[.slice pp t.ps.length pc, .slice np t.ns.length nc] 39)) _) w.heap.size (by rw [World.size_alloc]; omega)).trans (World.alloc_heap_new _ _)
  have hrb := fW (w := w.alloc (.cells #[.slice pp t.ps.length pc, .slice np t.ns.length nc] 39)) (P := .slice none 0 0) (N := .slice none 0 0) (T := 39)
  rw [World.size_alloc] at hrb
  have hpl : ∀ b, (Value.slice pp t.ps.length pc).ownBlock = some b → b < w.heap.size := fun b hb => (aD Gx.cg hb).2
  have zO : ∀ b, (Value.slice np t.ns.length nc).ownBlock = some b → b < w.heap.size := fun b hb => (aD Gx.cG hb).2
  have HG : Hid (GW w.heap.size B0 ((w.alloc (.cells #[.slice pp t.ps.length pc, .slice np t.ns.length nc] 39)).alloc (.cells #[.slice none 0 0, .slice none 0 0] 39)) (.slice pp t.ps.length pc) (.slice np t.ns.length nc) t) :=
   ⟨hb1, Gx.up aZ, ⟨fun e => by have := hpl _ e; omega, fun e => by have := zO _ e; omega⟩, by omega⟩
  have dR := aa (aZ.cell c0)
  have iu := aa (aZ.cell c1)
  have hxl : xb < w.heap.size := World.block_lt_of_cell? w _ c0
  have KR : Hid (aA (fun b => b < w.heap.size ∧ (Value.slice pp t.ps.length pc).ownBlock ≠ some b ∧ (Value.slice np t.ns.length nc).ownBlock ≠ some b) ((w.alloc (.cells #[.slice pp t.ps.length pc, .slice np t.ns.length nc] 39)).alloc (.cells #[.slice none 0 0, .slice none 0 0] 39)) (.slice kp ks.length kc) ks.length (vN vs)) :=
   (hk.sub (T := fun b => b < w.heap.size ∧ (Value.slice pp t.ps.length pc).ownBlock ≠ some b ∧ (Value.slice np t.ns.length nc).ownBlock ≠ some b) fun b hb hl => ⟨hl, hb⟩).keep (aZ.kept _)
  have HRS : Hid (RsAt (fun b => b < w.heap.size ∧ (Value.slice pp t.ps.length pc).ownBlock ≠ some b ∧ (Value.slice np t.ns.length nc).ownBlock ≠ some b) ((w.alloc (.cells #[.slice pp t.ps.length pc, .slice np t.ns.length nc] 39)).alloc (.cells #[.slice none 0 0, .slice none 0 0] 39)) ks vs) :=
   RsAt.keep (aZ.kept _) ks (RsAt.sub (fun b hb hl => ⟨hl, hb⟩) ks hs)
  have jJ := aa hrb
  have b5 := aa hsz
  have jU := aa aZ
  have HS := aa hS
  have Zj := aa hpl
  have kO := aa zO
  have iJ := aa hbd
  have yu := aa (Ns t nm ks par)
  have fT := aa eF
  have HR := aa hr
  have hb10 := HG.out.cells.1
  clear ih hv Tz aZ hb1 hrb hpl zO Gx hk hs hnl c0 c1 hS hbd eF hr
  go_enter Tryz.func260, Tryz.ntmps260
  go_wp2_with fail
  clear hb10
  generalize (w.alloc (.cells #[.slice pp t.ps.length pc, .slice np t.ns.length nc] 39)).alloc (.cells #[.slice none 0 0, .slice none 0 0] 39) = w2 at *
  generalize htb : w.heap.size = tb at *
  have TA : Hid (∀ (W : World) (P' N' : Value), GK tb w2 W (.slice pp t.ps.length pc) (.slice np t.ns.length nc) P' N' → W.cell? ⟨xb, 0, none⟩ = some (.string nm) ∧ W.cell? ⟨xb, 1, none⟩ = some (.slice kp ks.length kc)) := fun W P' N' hk => by
   have h1 := hk.block xb (by rw [b5.out]; omega) (by omega) (fun e => HS.out.1 e.symm) (fun e => HS.out.2 e.symm)
   exact ⟨(World.cell?_of_block (a := ⟨xb, 0, none⟩) h1).trans dR.out, (World.cell?_of_block (a := ⟨xb, 1, none⟩) h1).trans iu.out⟩
  go_cut [] from 12 to 26 (fun wx => ∃ P' N', GW tb B0 wx P' N' (t.push par nm) ∧ GK tb w2 wx (.slice pp t.ps.length pc) (.slice np t.ns.length nc) P' N')
  case first =>
   have hd := Up.drewN w2 1
   have DM := aa HG.out
   have dG := aa HG.out.box
   have KT : Hid (RW tb B0 w2 w2.drew (.slice pp t.ps.length pc) (.slice np t.ns.length nc) (.slice pp t.ps.length pc) (.slice np t.ns.length nc) t.ps t.ns) := (RW.start HG.out.tl ⟨⟨HG.out.lt, HG.out.lo.1⟩, HG.out.lo.2⟩).up hd
   have kK : Hid (t.ps.length ≤ 1000000 ∧ t.ns.length ≤ 1000000) := by have := iJ.out; have := lI.out; unfold Hid; omega
   have mS : Hid (∀ {W : World} {P' N' : Value} {ps' : List Int} {ns' : List ByteArray}, RW tb B0 w2 W (.slice pp t.ps.length pc) (.slice np t.ns.length nc) P' N' ps' ns' → W.cell? ⟨tb, 0, none⟩ = some (.slice pp t.ps.length pc) ∧ W.cell? ⟨tb, 1, none⟩ = some (.slice np t.ns.length nc) ∧ W.cell? ⟨xb, 0, none⟩ = some (.string nm)) :=
    fun h => ⟨(h.cells dG.out).1, (h.cells dG.out).2, (TA.out _ _ _ h.gk).1⟩
   refine cZ (by kernel_rfl) 13 (fun w' => w'.cell? ⟨tb, 0, none⟩ = some (.slice pp t.ps.length pc) ∧ w'.cell? ⟨tb, 1, none⟩ = some (.slice np t.ns.length nc) ∧ w'.cell? ⟨xb, 0, none⟩ = some (.string nm)) (mS.out KT.out) (fun hS => ?_)
   simp only [List.size_toArray, List.length_cons, List.length_nil, Nat.reduceAdd, Array.replicate_succ, Array.replicate_zero, List.push_toArray, List.nil_append, List.cons_append]
   generalize w2.drew = Wd at *
   refine af.take (i := 0) (v := ?Ke) rfl (by kernel_rfl) (fun _ _ _ h => h) (by rfl) (fun w hSw => ?ur) hS ?Kf
   case ur =>
    (try dsimp only at hSw)
    go_simp
    try with_reducible rfl
   try simp only [Act.put, ah, aj, aq]
   refine af.take (i := 1) (v := ?Kg) rfl (by kernel_rfl) (fun _ _ _ h => h) (by rfl) (fun w hSw => ?uu) hS ?Kh
   case uu =>
    (try dsimp only at hSw)
    go_simp
    try with_reducible rfl
   try simp only [Act.put, ah, aj, aq]
   refine af.take (i := 2) (v := ?Ki) rfl (by kernel_rfl) (fun _ _ _ h => h) (by rfl) (fun w hSw => ?uv) hS ?Kj
   case uv =>
    (try dsimp only at hSw)
    go_simp
    try with_reducible rfl
   try simp only [Act.put, ah, aj, aq]
   refine af.take (i := 5) (v := ?SP) rfl (by kernel_rfl) (fun _ _ _ h => h) (by rfl) (fun w hSw => ?Da) hS ?SQ
   case Da =>
    (try dsimp only at hSw)
    go_simp
    try with_reducible rfl
   try simp only [Act.put, ah, aj, aq]
   refine af.take (i := 6) (v := ?SR) rfl (by kernel_rfl) (fun _ _ _ h => h) (by rfl) (fun w hSw => ?Db) hS ?SS
   case Db =>
    (try dsimp only at hSw)
    go_simp
    try with_reducible rfl
   try simp only [Act.put, ah, aj, aq]
   refine af.take (i := 7) (v := ?Pj) rfl (by kernel_rfl) (fun _ _ _ h => h) (by rfl) (fun w hSw => ?yx) hS ?Pk
   case yx =>
    (try dsimp only at hSw)
    go_simp
    try with_reducible rfl
   try simp only [Act.put, ah, aj, aq]
   refine af.take (i := 8) (v := ?Pm) rfl (by kernel_rfl) (fun _ _ _ h => h) (by rfl) (fun w hSw => ?yy) hS ?Pn
   case yy =>
    (try dsimp only at hSw)
    go_simp
    try with_reducible rfl
   try simp only [Act.put, ah, aj, aq]
   refine af.take (i := 9) (v := ?Po) rfl (by kernel_rfl) (fun _ _ _ h => h) (by rfl) (fun w hSw => ?yz) hS ?Pp
   case yz =>
    (try dsimp only at hSw)
    go_simp
    try with_reducible rfl
   try simp only [Act.put, ah, aj, aq]
   refine af.take (i := 10) (v := ?MT) rfl (by kernel_rfl) (fun _ _ _ h => h) (by rfl) (fun w hSw => ?xy) hS ?MU
   case xy =>
    (try dsimp only at hSw)
    go_simp
    try with_reducible rfl
   try simp only [Act.put, ah, aj, aq]
   refine af.vB (i := 3) (i2 := 11) rfl rfl (by kernel_rfl) (fun K' hK => ?_) (fun K' hK => ?_)
   ·go_simp
    have yK : Hid (RW tb B0 _ (Wd.alloc (.cells #[.int .i64 par] 3)) _ _ _ _ _ _) := KT.out.up (Up.alloc _ _)
    refine hK.out _ _ (fun _ => mS.out yK.out) (fun _ => ?_)
    try simp only [ah, aj, aq]
    refine af.vB (i := 4) (i2 := 11) rfl rfl (by kernel_rfl) (fun K' hK => ?_) (fun K' hK => ?_)
    ·refine eE (by rfl) _ _ _ (by rfl) B0 3 _ 8 Tryz.underlying26 Tryz.jx (by rfl) (by decide) (by rfl) yK.out.tl.cg (.int .i64 par) Wd.heap.size (by rfl) (aK Wd #[.int .i64 par] 3 0) (by rfl) (by rw [List.length_map]; exact kK.out.1) (Nat.le_trans yK.out.lo.2 yK.out.gk.size) ?_
     intro g1 Kz iM oQ iT hrg1 _
     have oW : Hid (RW tb B0 _ iM _ _ _ _ _ _) := yK.out.xB oQ iT (hrg1.imp id (fun e => Nat.le_of_eq e.symm))
     refine hK.out _ _ (fun _ => mS.out oW.out) (fun _ => ?_)
     try simp only [Act.put, ah, aj, aq]
     refine af.free (i := 13) (v := ?gv13a) rfl (by kernel_rfl) (fun _ _ _ h => h) (by rfl) (fun w => ?WS) (fun _ => mS.out oW.out) ?gr13a
     case WS =>
      go_simp
      try with_reducible rfl
     try simp only [Act.put, ah, aj, aq]
     refine af.step (i := 11) rfl (by kernel_rfl) (fun K' hK => ?_)
     go_simp
     have lJ : Hid (RW tb B0 _ (iM.alloc (.cells #[.string nm] 9)) _ _ _ _ _ _) := oW.out.up (Up.alloc _ _)
     refine hK.out _ _ (fun _ => mS.out lJ.out) (fun _ => ?_)
     try simp only [ah, aj, aq]
     refine af.step (i := 12) rfl (by kernel_rfl) (fun K' hK => ?_)
     refine eE (by rfl) _ _ _ (by rfl) B0 9 _ 16 Tryz.underlying22 Tryz.gy (by rfl) (by decide) (by rfl) lJ.out.tl.cG (.string nm) iM.heap.size (by rfl) (aK iM #[.string nm] 9 0) (by rfl) (by rw [List.length_map]; exact kK.out.2) (Nat.le_trans lJ.out.lo.2 lJ.out.gk.size) ?_
     intro g2 KA dJ oT lq hrg2 _
     have mU : Hid (RW tb B0 _ dJ _ _ _ _ _ _) := lJ.out.xC oT lq (hrg2.imp id (fun e => Nat.le_of_eq e.symm))
     refine hK.out _ _ (fun _ => mS.out mU.out) (fun _ => ?_)
     try simp only [Act.put, ah, aj, aq]
     obtain ⟨yB, lu⟩ := mU.out.cells dG.out
     have KB := mU.out.frozen dG.out 0
     have Dq := mU.out.frozen dG.out 1
     have lz := aa (mU.out.store DM.out)
     refine af.step (i := 14) rfl (by kernel_rfl) (fun K' hK => ?_)
     go_simp
     refine hK.out _ _ (aJ (by kernel_rfl)) (fun _ => ?_)
     try simp only [ah, aj, aq]
     refine af.free (i := 15) (v := ?WG) rfl (by kernel_rfl) (fun _ _ _ h => h) (by rfl) (fun w => ?Ip) (aJ (by kernel_rfl)) ?WH
     case Ip =>
      go_simp
      try with_reducible rfl
     try simp only [Act.put, ah, aj, aq]
     refine af.step (i := 16) rfl (by kernel_rfl) (fun K' hK => ?_)
     go_simp
     refine hK.out _ _ (aJ (by kernel_rfl)) (fun _ => ?_)
     refine af.done (by kernel_rfl) ?_
     go_wp2_with fail
     go_meet
     case rel =>
      have cD := lz.out
      simp only [List.length_map] at cD
      exact ⟨_, _, cD.1, cD.2⟩
    ·go_simp
     have oW : Hid (RW tb B0 _ ((Wd.alloc (.cells #[.int .i64 par] 3)).alloc (.cells #[.string nm] 9)) _ _ _ _ _ _) := yK.out.up (Up.alloc _ _)
     refine hK.out _ _ (fun _ => mS.out oW.out) (fun _ => ?_)
     try simp only [ah, aj, aq]
     have nE := aK (Wd.alloc (.cells #[.int .i64 par] 3)) #[.string nm] 9 0
     have kZ := (Up.alloc (Wd.alloc (.cells #[.int .i64 par] 3)) (.cells #[.string nm] 9)).cell (aK Wd #[.int .i64 par] 3 0)
     rw [World.size_alloc] at nE
     refine af.step (i := 4) rfl (by kernel_rfl) (fun K' hK => ?_)
     refine eE (by rfl) _ _ _ (by rfl) B0 3 _ 8 Tryz.underlying26 Tryz.jx (by rfl) (by decide) (by rfl) oW.out.tl.cg (.int .i64 par) Wd.heap.size (by rfl) kZ (by rfl) (by rw [List.length_map]; exact kK.out.1) (Nat.le_trans oW.out.lo.2 oW.out.gk.size) ?_
     intro g1 Kz iM oQ iT hrg1 _
     have lJ : Hid (RW tb B0 _ iM _ _ _ _ _ _) := oW.out.xB oQ iT (hrg1.imp id (fun e => Nat.le_of_eq e.symm))
     have oB : iM.cell? ⟨Wd.heap.size + 1, 0, none⟩ = some (.string nm) := by
      rw [iT.cell_far ⟨Wd.heap.size + 1, 0, none⟩ (by simp) (fun e => absurd (aD KT.out.tl.cg e.symm).2 (by show ¬ (Wd.heap.size + 1 < Wd.heap.size); omega))]; exact nE
     refine hK.out _ _ (fun _ => mS.out lJ.out) (fun _ => ?_)
     try simp only [Act.put, ah, aj, aq]
     refine af.free (i := 13) (v := ?gv13b) rfl (by kernel_rfl) (fun _ _ _ h => h) (by rfl) (fun w => ?WT) (fun _ => mS.out lJ.out) ?gr13b
     case WT =>
      go_simp
      try with_reducible rfl
     try simp only [Act.put, ah, aj, aq]
     refine af.step (i := 12) rfl (by kernel_rfl) (fun K' hK => ?_)
     refine eE (by rfl) _ _ _ (by rfl) B0 9 _ 16 Tryz.underlying22 Tryz.gy (by rfl) (by decide) (by rfl) lJ.out.tl.cG (.string nm) (Wd.heap.size + 1) (by rfl) oB (by rfl) (by rw [List.length_map]; exact kK.out.2) (Nat.le_trans lJ.out.lo.2 lJ.out.gk.size) ?_
     intro g2 KA dJ oT lq hrg2 _
     have mU : Hid (RW tb B0 _ dJ _ _ _ _ _ _) := lJ.out.xC oT lq (hrg2.imp id (fun e => Nat.le_of_eq e.symm))
     refine hK.out _ _ (fun _ => mS.out mU.out) (fun _ => ?_)
     try simp only [Act.put, ah, aj, aq]
     obtain ⟨yB, lu⟩ := mU.out.cells dG.out
     have KB := mU.out.frozen dG.out 0
     have Dq := mU.out.frozen dG.out 1
     have lz := aa (mU.out.store DM.out)
     refine af.step (i := 14) rfl (by kernel_rfl) (fun K' hK => ?_)
     go_simp
     refine hK.out _ _ (aJ (by kernel_rfl)) (fun _ => ?_)
     try simp only [ah, aj, aq]
     refine af.free (i := 15) (v := ?WJ) rfl (by kernel_rfl) (fun _ _ _ h => h) (by rfl) (fun w => ?Iq) (aJ (by kernel_rfl)) ?WK
     case Iq =>
      go_simp
      try with_reducible rfl
     try simp only [Act.put, ah, aj, aq]
     refine af.step (i := 16) rfl (by kernel_rfl) (fun K' hK => ?_)
     go_simp
     refine hK.out _ _ (aJ (by kernel_rfl)) (fun _ => ?_)
     refine af.done (by kernel_rfl) ?_
     go_wp2_with fail
     go_meet
     case rel =>
      have cD := lz.out
      simp only [List.length_map] at cD
      exact ⟨_, _, cD.1, cD.2⟩
   ·go_simp
    have yK : Hid (RW tb B0 _ (Wd.alloc (.cells #[.string nm] 9)) _ _ _ _ _ _) := KT.out.up (Up.alloc _ _)
    refine hK.out _ _ (fun _ => mS.out yK.out) (fun _ => ?_)
    try simp only [ah, aj, aq]
    refine af.step (i := 3) rfl (by kernel_rfl) (fun K' hK => ?_)
    go_simp
    have oW : Hid (RW tb B0 _ ((Wd.alloc (.cells #[.string nm] 9)).alloc (.cells #[.int .i64 par] 3)) _ _ _ _ _ _) := yK.out.up (Up.alloc _ _)
    refine hK.out _ _ (fun _ => mS.out oW.out) (fun _ => ?_)
    try simp only [ah, aj, aq]
    have kZ := aK (Wd.alloc (.cells #[.string nm] 9)) #[.int .i64 par] 3 0
    have nE := (Up.alloc (Wd.alloc (.cells #[.string nm] 9)) (.cells #[.int .i64 par] 3)).cell (aK Wd #[.string nm] 9 0)
    rw [World.size_alloc] at kZ
    refine af.step (i := 4) rfl (by kernel_rfl) (fun K' hK => ?_)
    refine eE (by rfl) _ _ _ (by rfl) B0 3 _ 8 Tryz.underlying26 Tryz.jx (by rfl) (by decide) (by rfl) oW.out.tl.cg (.int .i64 par) (Wd.heap.size + 1) (by rfl) kZ (by rfl) (by rw [List.length_map]; exact kK.out.1) (Nat.le_trans oW.out.lo.2 oW.out.gk.size) ?_
    intro g1 Kz iM oQ iT hrg1 _
    have lJ : Hid (RW tb B0 _ iM _ _ _ _ _ _) := oW.out.xB oQ iT (hrg1.imp id (fun e => Nat.le_of_eq e.symm))
    have oB : iM.cell? ⟨Wd.heap.size, 0, none⟩ = some (.string nm) := by
     rw [iT.cell_far ⟨Wd.heap.size, 0, none⟩ (by simp; omega) (fun e => absurd (aD KT.out.tl.cg e.symm).2 (by show ¬ (Wd.heap.size < Wd.heap.size); omega))]; exact nE
    refine hK.out _ _ (fun _ => mS.out lJ.out) (fun _ => ?_)
    try simp only [Act.put, ah, aj, aq]
    refine af.free (i := 13) (v := ?gv13c) rfl (by kernel_rfl) (fun _ _ _ h => h) (by rfl) (fun w => ?WU) (fun _ => mS.out lJ.out) ?gr13c
    case WU =>
     go_simp
     try with_reducible rfl
    try simp only [Act.put, ah, aj, aq]
    refine af.step (i := 12) rfl (by kernel_rfl) (fun K' hK => ?_)
    refine eE (by rfl) _ _ _ (by rfl) B0 9 _ 16 Tryz.underlying22 Tryz.gy (by rfl) (by decide) (by rfl) lJ.out.tl.cG (.string nm) Wd.heap.size (by rfl) oB (by rfl) (by rw [List.length_map]; exact kK.out.2) (Nat.le_trans lJ.out.lo.2 lJ.out.gk.size) ?_
    intro g2 KA dJ oT lq hrg2 _
    have mU : Hid (RW tb B0 _ dJ _ _ _ _ _ _) := lJ.out.xC oT lq (hrg2.imp id (fun e => Nat.le_of_eq e.symm))
    refine hK.out _ _ (fun _ => mS.out mU.out) (fun _ => ?_)
    try simp only [Act.put, ah, aj, aq]
    obtain ⟨yB, lu⟩ := mU.out.cells dG.out
    have KB := mU.out.frozen dG.out 0
    have Dq := mU.out.frozen dG.out 1
    have lz := aa (mU.out.store DM.out)
    refine af.step (i := 14) rfl (by kernel_rfl) (fun K' hK => ?_)
    go_simp
    refine hK.out _ _ (aJ (by kernel_rfl)) (fun _ => ?_)
    try simp only [ah, aj, aq]
    refine af.free (i := 15) (v := ?WM) rfl (by kernel_rfl) (fun _ _ _ h => h) (by rfl) (fun w => ?Ir) (aJ (by kernel_rfl)) ?WN
    case Ir =>
     go_simp
     try with_reducible rfl
    try simp only [Act.put, ah, aj, aq]
    refine af.step (i := 16) rfl (by kernel_rfl) (fun K' hK => ?_)
    go_simp
    refine hK.out _ _ (aJ (by kernel_rfl)) (fun _ => ?_)
    refine af.done (by kernel_rfl) ?_
    go_wp2_with fail
    go_meet
    case rel =>
     have cD := lz.out
     simp only [List.length_map] at cD
     exact ⟨_, _, cD.1, cD.2⟩
  case rest =>
   obtain ⟨P1, N1, Zk, PA⟩ := hcut
   have wO := aa Zk
   have Tb := aa PA
   have DN : Hid ((t.push par nm).apps (ks.take 0) t.ps.length = t.push par nm) := Nn _ _
   clear Zk PA
   go_wp2_with fail
   go_loopw [8] (fun i wr => ∃ (j : Nat) (P' N' : Value), j ≤ ks.length ∧ i = .int .i64 j ∧ Hid (GW tb B0 wr P' N' ((t.push par nm).apps (ks.take j) t.ps.length)) ∧ Hid (GK tb w2 wr (.slice pp t.ps.length pc) (.slice np t.ns.length nc) P' N')) (fun i _ => ks.length - (intOf i).toNat)
   case atStart => exact ⟨0, P1, N1, Nat.zero_le _, rfl, by rw [DN.out]; exact wO.out, Tb.out⟩
   case round =>
    obtain ⟨j, P', N', hj, rfl, yL, yM⟩ := hrel
    obtain ⟨wo, rfl⟩ : ∃ wo : World, wo = wr := ⟨_, rfl⟩
    have hx := TA.out _ _ _ yM.out
    have hx1 := hx.2
    by_cases hlt : j < ks.length
    ·have hcs := yL.out.cells
     have hkr : Kept (fun b => b < tb ∧ (Value.slice pp t.ps.length pc).ownBlock ≠ some b ∧ (Value.slice np t.ns.length nc).ownBlock ≠ some b) w2 wo := yM.out.WQ fun b hb _ => ⟨by omega, hb.2⟩
     obtain ⟨kb, ko, rfl, hkc⟩ := lG (KR.out.keep hkr) hlt
     have yN := RAt.keep hkr _ (RsAt.get ks HRS.out j hlt)
     have TB : RAt (fun b => P'.ownBlock ≠ some b ∧ N'.ownBlock ≠ some b) wo (gr ks j) (vN vs j) := RAt.sub (fun b hb hl => ⟨fun e => by
      rcases yM.out.mj b e with h1 | h1
      ·exact hb.2.1 h1
      ·have := hb.1; have := b5.out; omega, fun e => by
      rcases yM.out.mm b e with h1 | h1
      ·exact hb.2.2 h1
      ·have := hb.1; have := b5.out; omega⟩) _ yN
     have hgs := od hlt
     obtain ⟨T, hT⟩ : ∃ T, T = (t.push par nm).apps (ks.take j) t.ps.length := ⟨_, rfl⟩
     have HTS : Hid (T.app (gr ks j) (t.ps.length : Int) = (t.push par nm).apps (ks.take (j + 1)) t.ps.length) := by rw [hT]; exact Nt _ _ hlt _
     have htl : T.ps.length = t.ps.length + 1 + sizeRs (ks.take j) ∧ T.ns.length = t.ns.length + 1 + sizeRs (ks.take j) := by
      rw [hT]; unfold av.apps av.push
      simp only [List.length_append, List.length_cons, List.length_nil, mh, xG]
      exact ⟨trivial, trivial⟩
     have hsz2 := IB ks hlt
     rw [← hT] at yL
     have eU : Hid (∀ W, Up wo W → Calls Tryz.prog 260 #[.agg #[P', N'], vN vs j, .int .i64 (t.ps.length : Nat)] W (KP B0 W P' N' T (gr ks j) (t.ps.length : Nat))) := fun W hW =>
      ir.out (gr ks j) (by have := HR.out; omega) W P' N' (vN vs j) T _ (yL.out.tl.up hW) (Nat.le_trans yL.out.lo.2 hW.size) (by have := lI.out; omega) (by have := iJ.out; omega) (RAt.keep (hW.kept _) _ TB)
     have Bc := aa yL.out
     have HKJ := aa yM.out
     have i1 : (0 : Int) ≤ (j : Int) := by omega
     have i2 : (j : Int) < (ks.length : Int) := by omega
     have i3 : (j : Int) < 1000000 := by have := fT.out; have := iJ.out; omega
     have aQ := aa hlt
     have a0 := hcs.1
     have a1 := hcs.2.1
     clear hT htl hgs yN TB hkr hcs hx yL yM hsz2 hlt hj
     generalize vN vs j = kv at *
     generalize gr ks j = r at *
     go_wp2_with fail
     refine cZ (by kernel_rfl) 10 (fun w' => w'.cell? ⟨tb, 0, none⟩ = some P' ∧ w'.cell? ⟨tb, 1, none⟩ = some N' ∧ w'.cell? ⟨xb, 1, none⟩ = some (.slice (some ⟨kb, ko, none⟩) ks.length kc) ∧ w'.cell? ⟨kb, ko + j, none⟩ = some kv) ⟨a0, a1, hx1, hkc⟩ (fun hS => ?_)
     simp only [List.size_toArray, List.length_cons, List.length_nil, Nat.reduceAdd, Array.replicate_succ, Array.replicate_zero, List.push_toArray, List.nil_append, List.cons_append]
     refine af.take (i := 0) (v := ?sH) rfl (by kernel_rfl) (fun _ _ _ h => h) (by rfl) (fun w hSw => ?iD) hS ?sI
     case iD =>
      (try dsimp only at hSw)
      go_simp
      try with_reducible rfl
     try simp only [Act.put, ah, aj, aq]
     refine af.take (i := 1) (v := ?sJ) rfl (by kernel_rfl) (fun _ _ _ h => h) (by rfl) (fun w hSw => ?iE) hS ?sK
     case iE =>
      (try dsimp only at hSw)
      go_simp
      try with_reducible rfl
     try simp only [Act.put, ah, aj, aq]
     refine af.take (i := 2) (v := ?vE) rfl (by kernel_rfl) (fun _ _ _ h => h) (by rfl) (fun w hSw => ?jC) hS ?vF
     case jC =>
      (try dsimp only at hSw)
      go_simp
      try with_reducible rfl
     try simp only [Act.put, ah, aj, aq]
     refine af.take (i := 3) (v := ?vG) rfl (by kernel_rfl) (fun _ _ _ h => h) (by rfl) (fun w hSw => ?jD) hS ?vH
     case jD =>
      (try dsimp only at hSw)
      go_simp
      try with_reducible rfl
     try simp only [Act.put, ah, aj, aq]
     refine af.take (i := 4) (v := ?vI) rfl (by kernel_rfl) (fun _ _ _ h => h) (by rfl) (fun w hSw => ?jE) hS ?vJ
     case jE =>
      (try dsimp only at hSw)
      go_simp
      try with_reducible rfl
     try simp only [Act.put, ah, aj, aq]
     refine af.take (i := 5) (v := ?vK) rfl (by kernel_rfl) (fun _ _ _ h => h) (by rfl) (fun w hSw => ?jF) hS ?vL
     case jF =>
      (try dsimp only at hSw)
      go_simp
      try with_reducible rfl
     try simp only [Act.put, ah, aj, aq]
     refine af.take (i := 6) (v := ?yO) rfl (by kernel_rfl) (fun _ _ _ h => h) (by rfl) (fun w hSw => ?lK) hS ?yP
     case lK =>
      (try dsimp only at hSw)
      go_simp
      try with_reducible rfl
     try simp only [Act.put, ah, aj, aq]
     refine af.take (i := 7) (v := ?Cr) rfl (by kernel_rfl) (fun _ _ _ h => h) (by rfl) (fun w hSw => ?nT) hS ?Cs
     case nT =>
      (try dsimp only at hSw)
      go_simp
      try with_reducible rfl
     try simp only [Act.put, ah, aj, aq]
     refine af.take (i := 8) (v := ?IC) rfl (by kernel_rfl) (fun _ _ _ h => h) (by rfl) (fun w hSw => ?sL) hS ?ID
     case sL =>
      (try dsimp only at hSw)
      go_simp
      try with_reducible rfl
     try simp only [Act.put, ah, aj, aq]
     refine af.step (i := 9) rfl (by kernel_rfl) (fun K' hK => ?_)
     go_simp
     refine (eU.out _ (Nu wo)).mono ?_
     rintro e w3 ⟨P2, N2, rfl, Bd, hK3⟩
     obtain ⟨p2, c2, rfl, _, _⟩ := aA.open Bd.cg.ints
     obtain ⟨q2, e2, rfl, _, _⟩ := aA.open Bd.cG.strs
     have hfz := KQ Bc.out hK3
     have Gl := hfz 0
     have rD := hfz 1
     have hw0 : w3.cell? ⟨tb, 0, none⟩ = some P' := (World.cell?_of_block (a := ⟨tb, 0, none⟩) (vD Bc.out hK3)).trans Bc.out.cells.1
     have hw1 : w3.cell? ⟨tb, 1, none⟩ = some N' := (World.cell?_of_block (a := ⟨tb, 1, none⟩) (vD Bc.out hK3)).trans Bc.out.cells.2.1
     have TC := aa (Bc.out.put (u := T.app r (t.ps.length : Int)) (WR Bc.out hK3) (vD Bc.out hK3) Bd)
     clear hfz Bd hK3
     refine hK.out _ _ (aJ (by kernel_rfl)) (fun hS => ?_)
     try simp only [ah, aj, aq]
     refine af.step (i := 10) rfl (by kernel_rfl) (fun K' hK => ?_)
     go_simp
     refine hK.out _ _ (aJ (by kernel_rfl)) (fun hS => ?_)
     refine af.done (by kernel_rfl) ?_
     go_wp2_with fail
     go_roundw
     case rel => exact ⟨j + 1, _, _, aQ.out, by go_num, by rw [← HTS.out]; exact TC.out.1, HKJ.out.trans TC.out.2⟩
     case measure => have := aQ.out; simp [intOf]; omega
    ·obtain rfl : j = ks.length := by omega
     have hcs := yL.out.cells
     have a0 := hcs.1
     have a1 := hcs.2.1
     have hrb : wo.heap[tb + 1]? = some (Obj.cells #[.slice none 0 0, .slice none 0 0] 39 (0, 0)) :=
      (yM.out.block (tb + 1) (by rw [b5.out]; omega) (by omega) (fun e => by have := Zj.out _ e.symm; omega) (fun e => by have := kO.out _ e.symm; omega)).trans jJ.out
     obtain ⟨r0, r1, r2, r3⟩ : wo.cell? ⟨tb + 1, 0, none⟩ = some (.slice none 0 0) ∧ wo.cell? ⟨tb + 1, 1, none⟩ = some (.slice none 0 0) ∧ wo.frozen? ⟨tb + 1, 0, none⟩ = false ∧ wo.frozen? ⟨tb + 1, 1, none⟩ = false := by
      refine ⟨?_, ?_, ?_, ?_⟩ <;> simp [World.cell?, World.frozen?, hrb]
     have KU := yL.out
     rw [List.take_length, yu.out] at KU
     have TD := aa KU
     have DO := aa yM.out
     obtain ⟨pq, tD, rfl, _, _⟩ := aA.open KU.tl.cg.ints
     obtain ⟨nq, tE, rfl, _, _⟩ := aA.open KU.tl.cG.strs
     have HRBX := aa hrb
     clear hcs yL yM KU hx hlt hj hrb
     go_wp2_with fail
     have b8 : ∀ b, b ≠ tb + 1 → ((wo.setCell ⟨tb + 1, 0, none⟩ (.slice pq (t.app (.node nm ks) par).ps.length tD)).setCell ⟨tb + 1, 1, none⟩ (.slice nq (t.app (.node nm ks) par).ns.length tE)).heap[b]? = wo.heap[b]? := fun b hb => by rw [blk_setCell_other _ _ _ _ hb, blk_setCell_other _ _ _ _ hb]
     have hheap : ((wo.setCell ⟨tb + 1, 0, none⟩ (.slice pq (t.app (.node nm ks) par).ps.length tD)).setCell ⟨tb + 1, 1, none⟩ (.slice nq (t.app (.node nm ks) par).ns.length tE)).heap[tb + 1]? = some (Obj.cells #[.slice pq (t.app (.node nm ks) par).ps.length tD, .slice nq (t.app (.node nm ks) par).ns.length tE] 39 (0, 0)) := by
      simp [World.setCell, Array.getElem?_modify, HRBX.out]
     have S8 : ((wo.setCell ⟨tb + 1, 0, none⟩ (.slice pq (t.app (.node nm ks) par).ps.length tD)).setCell ⟨tb + 1, 1, none⟩ (.slice nq (t.app (.node nm ks) par).ns.length tE)).heap.size = wo.heap.size := by simp [World.size_setCell]
     have hos : ((wo.setCell ⟨tb + 1, 0, none⟩ (.slice pq (t.app (.node nm ks) par).ps.length tD)).setCell ⟨tb + 1, 1, none⟩ (.slice nq (t.app (.node nm ks) par).ns.length tE)).os = wo.os ∧ ((wo.setCell ⟨tb + 1, 0, none⟩ (.slice pq (t.app (.node nm ks) par).ps.length tD)).setCell ⟨tb + 1, 1, none⟩ (.slice nq (t.app (.node nm ks) par).ns.length tE)).tape = wo.tape ∧ ((wo.setCell ⟨tb + 1, 0, none⟩ (.slice pq (t.app (.node nm ks) par).ps.length tD)).setCell ⟨tb + 1, 1, none⟩ (.slice nq (t.app (.node nm ks) par).ns.length tE)).output = wo.output := ⟨rfl, rfl, rfl⟩
     generalize (wo.setCell ⟨tb + 1, 0, none⟩ (.slice pq (t.app (.node nm ks) par).ps.length tD)).setCell ⟨tb + 1, 1, none⟩ (.slice nq (t.app (.node nm ks) par).ns.length tE) = wf at *
     have iX : wf.cell? ⟨tb + 1, 0, none⟩ = some (.slice pq (t.app (.node nm ks) par).ps.length tD) := by simp [World.cell?, hheap]
     have hr1 : wf.cell? ⟨tb + 1, 1, none⟩ = some (.slice nq (t.app (.node nm ks) par).ns.length tE) := by simp [World.cell?, hheap]
     refine ⟨rfl, .agg #[.slice pq (t.app (.node nm ks) par).ps.length tD, .slice nq (t.app (.node nm ks) par).ns.length tE], by simp [results, Tryz.results260, go_sem, iX, hr1], ?_⟩
     have hs2 := b5.out
     have hnp : ∀ b, (Value.slice pq (t.app (.node nm ks) par).ps.length tD).ownBlock = some b → (Value.slice pp t.ps.length pc).ownBlock = some b ∨ w2.heap.size ≤ b := DO.out.mj
     have hnn : ∀ b, (Value.slice nq (t.app (.node nm ks) par).ns.length tE).ownBlock = some b → (Value.slice np t.ns.length nc).ownBlock = some b ∨ w2.heap.size ≤ b := DO.out.mm
     have Nc : ∀ b, (Value.slice pq (t.app (.node nm ks) par).ps.length tD).ownBlock = some b → b ≠ tb + 1 := fun b hb => by
      rcases hnp b hb with h1 | h1
      ·have := Zj.out b h1; omega
      ·omega
     have zB : ∀ b, (Value.slice nq (t.app (.node nm ks) par).ns.length tE).ownBlock = some b → b ≠ tb + 1 := fun b hb => by
      rcases hnn b hb with h1 | h1
      ·have := kO.out b h1; omega
      ·omega
     have Kn := DO.out.size
     refine ⟨_, _, rfl, ⟨TD.out.tl.cg.eV fun b hb => b8 b (Nc b hb), TD.out.tl.cG.eV fun b hb => b8 b (zB b hb), TD.out.tl.apart⟩, hos.1.trans (DO.out.os.trans jU.out.os), hos.2.1.trans (DO.out.tape.trans jU.out.tape), hos.2.2.trans (DO.out.output.trans jU.out.output), by omega, fun b hb h1 h2 h3 => ?_, fun b hb => ?_, fun b hb => ?_⟩
     ·rw [b8 b (by omega), DO.out.block b (by omega) (by omega) h2 h3]
      exact jU.out.block b hb
     ·rcases hnp b hb with h1 | h1
      ·exact .inl h1
      ·exact .inr (by omega)
     ·rcases hnn b hb with h1 | h1
      ·exact .inl h1
      ·exact .inr (by omega)
end Go.Proofs.YteegefnjnikngaaGreat
