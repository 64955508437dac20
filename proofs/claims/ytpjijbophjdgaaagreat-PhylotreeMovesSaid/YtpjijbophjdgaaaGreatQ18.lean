/- The contract of layer 31's reference's with and number. -/
import Derived.Test.YtpjijbophjdgaaaGreatQ17
import Derived.Test.YtpjijbophjdgaaaGreatQ14
import Derived.Deep.CutRange
namespace Go.Proofs.YtpjijbophjdgaaaGreat
open Go.RowKit Go.Deep
structure RW (tb B0 : Nat) (w W : World) (P N Pv Nv : Value) (ps : List Int) (ns : List ByteArray) : Prop where
  gk : GK tb w W P N Pv Nv
  tl : TL B0 W Pv Nv ps ns
  same : W.heap[tb]? = w.heap[tb]?
  lo : (tb < w.heap.size ∧ P.ownBlock ≠ some tb ∧ N.ownBlock ≠ some tb) ∧ B0 ≤ w.heap.size
section
variable {tb B0 : Nat} {w W W' : World} {P N Pv Nv : Value} {ps : List Int} {ns : List ByteArray}
theorem RW.start (h : TL B0 w P N ps ns) (hl : (tb < w.heap.size ∧ P.ownBlock ≠ some tb ∧ N.ownBlock ≠ some tb) ∧ B0 ≤ w.heap.size) : RW tb B0 w w P N P N ps ns := ⟨GK.refl _ _ _ _, h, rfl, hl⟩
theorem RW.notP (h : RW tb B0 w W P N Pv Nv ps ns) : Pv.ownBlock ≠ some tb := fun e => by
  rcases h.gk.newP tb e with h1 | h1
  · exact h.lo.1.2.1 h1
  · have := h.lo.1.1; omega
theorem RW.notN (h : RW tb B0 w W P N Pv Nv ps ns) : Nv.ownBlock ≠ some tb := fun e => by
  rcases h.gk.newN tb e with h1 | h1
  · exact h.lo.1.2.2 h1
  · have := h.lo.1.1; omega
theorem RW.up (h : RW tb B0 w W P N Pv Nv ps ns) (hu : Up W W') : RW tb B0 w W' P N Pv Nv ps ns :=
  ⟨h.gk.up hu, h.tl.up hu, (Below.block hu tb (by have := h.gk.size; have := h.lo.1.1; omega)).trans h.same, h.lo⟩
theorem RW.appP (h : RW tb B0 w W P N Pv Nv ps ns) {g cap k : Nat} {u : Int} (ho : Owns B0 3 W' (.slice (some ⟨g, 0, none⟩) k cap) (ps.map (Value.int .i64) ++ [.int .i64 u])) (hg : W.grownBy W' Pv.ownBlock) (hor : Pv.ownBlock = some g ∨ W.heap.size ≤ g) :
    RW tb B0 w W' P N (.slice (some ⟨g, 0, none⟩) k cap) Nv (ps ++ [u]) ns := by
  have hlo := h.lo
  have hsz := h.gk.size
  have hnp := h.notP
  refine ⟨⟨hg.os.trans h.gk.os, hg.tape.trans h.gk.tape, hg.output.trans h.gk.output, Nat.le_trans hsz hg.size, fun b hb h1 h2 h3 => ?_, fun b hb => ?_, h.gk.newN⟩, ⟨by rw [List.map_append]; exact ho, h.tl.nown.same2 fun b hb => hg.block b (ownBlock_lt h.tl.nown hb).2 (fun e => h.tl.apart b e.symm hb), fun b hb hb2 => ?_⟩, (hg.block tb (by have := hlo.1.1; omega) (fun e => hnp e.symm)).trans h.same, hlo⟩
  · rw [← h.gk.block b hb h1 h2 h3]
    refine hg.block b (by omega) fun e => ?_
    rcases h.gk.newP b e.symm with h4 | h4
    · exact h2 h4.symm
    · omega
  · injection hb with hb
    have hb : g = b := hb
    subst hb
    rcases hor with h4 | h4
    · exact h.gk.newP g h4
    · exact .inr (by omega)
  · injection hb with hb
    have hb : g = b := hb
    subst hb
    rcases hor with h1 | h1
    · exact h.tl.apart g h1 hb2
    · have := (ownBlock_lt h.tl.nown hb2).2; omega
theorem RW.appN (h : RW tb B0 w W P N Pv Nv ps ns) {g cap k : Nat} {u : ByteArray} (ho : Owns B0 9 W' (.slice (some ⟨g, 0, none⟩) k cap) (ns.map Value.string ++ [.string u])) (hg : W.grownBy W' Nv.ownBlock) (hor : Nv.ownBlock = some g ∨ W.heap.size ≤ g) :
    RW tb B0 w W' P N Pv (.slice (some ⟨g, 0, none⟩) k cap) ps (ns ++ [u]) := by
  have hlo := h.lo
  have hsz := h.gk.size
  have hnn := h.notN
  refine ⟨⟨hg.os.trans h.gk.os, hg.tape.trans h.gk.tape, hg.output.trans h.gk.output, Nat.le_trans hsz hg.size, fun b hb h1 h2 h3 => ?_, h.gk.newP, fun b hb => ?_⟩, ⟨h.tl.pown.same2 fun b hb => hg.block b (ownBlock_lt h.tl.pown hb).2 (fun e => h.tl.apart b hb e.symm), by rw [List.map_append]; exact ho, fun b hb hb2 => ?_⟩, (hg.block tb (by have := hlo.1.1; omega) (fun e => hnn e.symm)).trans h.same, hlo⟩
  · rw [← h.gk.block b hb h1 h2 h3]
    refine hg.block b (by omega) fun e => ?_
    rcases h.gk.newN b e.symm with h4 | h4
    · exact h3 h4.symm
    · omega
  · injection hb with hb
    have hb : g = b := hb
    subst hb
    rcases hor with h4 | h4
    · exact h.gk.newN g h4
    · exact .inr (by omega)
  · injection hb2 with hb2
    have hb2 : g = b := hb2
    subst hb2
    rcases hor with h1 | h1
    · exact h.tl.apart g hb h1
    · have := (ownBlock_lt h.tl.pown hb).2; omega
theorem RW.cells {P0 N0 : Value} (h : RW tb B0 w W P N Pv Nv ps ns) (hb : w.heap[tb]? = some (Obj.cells #[P0, N0] 45 (0, 0))) :
    W.cell? ⟨tb, 0, none⟩ = some P0 ∧ W.cell? ⟨tb, 1, none⟩ = some N0 := by
  have h1 := h.same.trans hb
  exact ⟨by simp [World.cell?, h1], by simp [World.cell?, h1]⟩
theorem RW.frozen {P0 N0 : Value} (h : RW tb B0 w W P N Pv Nv ps ns) (hb : w.heap[tb]? = some (Obj.cells #[P0, N0] 45 (0, 0))) (o : Nat) : W.frozen? ⟨tb, o, none⟩ = false := by
  have h1 := h.same.trans hb
  simp [World.frozen?, h1]
end
structure GW (tb B0 : Nat) (W : World) (P N : Value) (t : Tre) : Prop where
  box : W.heap[tb]? = some (Obj.cells #[P, N] 45 (0, 0))
  tl : TL B0 W P N t.ps t.ns
  lo : (P.ownBlock ≠ some tb ∧ N.ownBlock ≠ some tb) ∧ B0 ≤ W.heap.size
theorem GW.lt {tb B0 : Nat} {W : World} {P N : Value} {t : Tre} (h : GW tb B0 W P N t) : tb < W.heap.size := (Array.getElem?_eq_some_iff.1 h.box).1
theorem GW.cells {tb B0 : Nat} {W : World} {P N : Value} {t : Tre} (h : GW tb B0 W P N t) : W.cell? ⟨tb, 0, none⟩ = some P ∧ W.cell? ⟨tb, 1, none⟩ = some N ∧ W.frozen? ⟨tb, 0, none⟩ = false ∧ W.frozen? ⟨tb, 1, none⟩ = false := by
  refine ⟨?_, ?_, ?_, ?_⟩ <;> simp [World.cell?, World.frozen?, h.box]
theorem GW.put {tb B0 : Nat} {W X : World} {P N P' N' : Value} {t u : Tre} (h : GW tb B0 W P N t) (hk : GK tb W X P N P' N') (hs : X.heap[tb]? = W.heap[tb]?) (ht : TL B0 X P' N' u.ps u.ns) :
    GW tb B0 ((X.setCell ⟨tb, 0, none⟩ P').setCell ⟨tb, 1, none⟩ N') P' N' u ∧ GK tb W ((X.setCell ⟨tb, 0, none⟩ P').setCell ⟨tb, 1, none⟩ N') P N P' N' := by
  have h1 := hs.trans h.box
  have hl := h.lt
  have hp : P'.ownBlock ≠ some tb := fun e => by
    rcases hk.newP tb e with h2 | h2
    · exact h.lo.1.1 h2
    · omega
  have hn : N'.ownBlock ≠ some tb := fun e => by
    rcases hk.newN tb e with h2 | h2
    · exact h.lo.1.2 h2
    · omega
  have hset : ∀ b, b ≠ tb → ((X.setCell ⟨tb, 0, none⟩ P').setCell ⟨tb, 1, none⟩ N').heap[b]? = X.heap[b]? := fun b hb => by rw [blk_setCell_other _ _ _ _ hb, blk_setCell_other _ _ _ _ hb]
  have hsz : ((X.setCell ⟨tb, 0, none⟩ P').setCell ⟨tb, 1, none⟩ N').heap.size = X.heap.size := by simp [World.size_setCell]
  refine ⟨⟨by simp [World.setCell, Array.getElem?_modify, h1], ⟨ht.pown.same2 fun b hb => hset b (fun e => hp (by rw [hb, e])), ht.nown.same2 fun b hb => hset b (fun e => hn (by rw [hb, e])), ht.apart⟩, ⟨hp, hn⟩, by rw [hsz]; exact Nat.le_trans h.lo.2 hk.size⟩, hk.os, hk.tape, hk.output, by rw [hsz]; exact hk.size, fun b hb h2 h3 h4 => (hset b h2).trans (hk.block b hb h2 h3 h4), hk.newP, hk.newN⟩
theorem RW.store {tb B0 : Nat} {w W : World} {P N Pv Nv : Value} {t : Tre} {z : Int} {nm : ByteArray} (h0 : GW tb B0 w P N t) (h : RW tb B0 w W P N Pv Nv (t.ps ++ [z]) (t.ns ++ [nm])) :
    GW tb B0 ((W.setCell ⟨tb, 0, none⟩ Pv).setCell ⟨tb, 1, none⟩ Nv) Pv Nv (t.push z nm) ∧ GK tb w ((W.setCell ⟨tb, 0, none⟩ Pv).setCell ⟨tb, 1, none⟩ Nv) P N Pv Nv := h0.put h.gk h.same h.tl
theorem GK.keepR {tb : Nat} {w W : World} {P N P' N' : Value} (h : GK tb w W P N P' N') {S : Nat → Prop} (hS : ∀ b, S b → b < w.heap.size → b ≠ tb ∧ P.ownBlock ≠ some b ∧ N.ownBlock ≠ some b) : Kept S w W := fun b hb hl => by
  obtain ⟨h1, h2, h3⟩ := hS b hb hl
  exact h.block b hl h1 (fun e => h2 e.symm) (fun e => h3 e.symm)
def WtPost (B0 : Nat) (w : World) (P N : Value) (t : Tre) (r : RT) (par : Int) (e : Ending) (w' : World) : Prop :=
  ∃ P' N', e = .returned (.agg #[P', N']) ∧ TL B0 w' P' N' (t.app r par).ps (t.app r par).ns ∧ GK w.heap.size w w' P N P' N'
theorem app_node (t : Tre) (nm : ByteArray) (ks : List RT) (par : Int) : (t.push par nm).apps ks t.ps.length = t.app (.node nm ks) par := by
  unfold Tre.apps Tre.app Tre.push
  rw [psR, nsR]
  simp
theorem apps_one (t : Tre) (ks : List RT) {j : Nat} (h : j < ks.length) (own : Nat) : (t.apps (ks.take j) own).app (gr ks j) (own : Int) = t.apps (ks.take (j + 1)) own := by
  have hg : gr ks j = ks[j] := by simp [gr, h]
  rw [apps_app, hg, List.take_succ_eq_append_getElem h]
theorem sizes_take (ks : List RT) {j : Nat} (h : j < ks.length) : sizeRs (ks.take j) + sizeR (gr ks j) ≤ sizeRs ks := by
  induction ks generalizing j with
  | nil => simp at h
  | cons k ks ih =>
    cases j with
    | zero => rw [List.take_zero, sizeRs, sizeRs]; show _ + sizeR k ≤ _; omega
    | succ j =>
      have := ih (j := j) (by simpa using h)
      rw [List.take_succ_cons, sizeRs, sizeRs]
      show _ + sizeR (gr ks j) ≤ _
      omega
theorem drew_up3 (w : World) : Up w w.drew := Up.drewN w 1
theorem wt_same {tb B0 : Nat} {wo w3 : World} {P N P2 N2 : Value} {T : Tre} (h : GW tb B0 wo P N T) (hk : GK wo.drew.heap.size wo.drew w3 P N P2 N2) : w3.heap[tb]? = wo.heap[tb]? := by
  have hl := h.lt
  exact hk.block tb hl (fun e => by have : tb = wo.heap.size := e; omega) (fun e => h.lo.1.1 e.symm) (fun e => h.lo.1.2 e.symm)
theorem wt_frozen {tb B0 : Nat} {wo w3 : World} {P N P2 N2 : Value} {T : Tre} (h : GW tb B0 wo P N T) (hk : GK wo.drew.heap.size wo.drew w3 P N P2 N2) (o : Nat) : w3.frozen? ⟨tb, o, none⟩ = false := by
  have h1 := (wt_same h hk).trans h.box
  simp [World.frozen?, h1]
theorem wt_gk {tb B0 : Nat} {wo w3 : World} {P N P2 N2 : Value} {T : Tre} (_ : GW tb B0 wo P N T) (hk : GK wo.drew.heap.size wo.drew w3 P N P2 N2) : GK tb wo w3 P N P2 N2 :=
  ⟨hk.os, hk.tape, hk.output, hk.size, fun b hb _ h2 h3 => hk.block b hb (fun e => by have : b = wo.heap.size := e; omega) h2 h3, hk.newP, hk.newN⟩
set_option maxRecDepth 100000 in
set_option maxHeartbeats 4000000 in
theorem with_t (B0 : Nat) : ∀ (d : Nat) (r : RT), sizeR r ≤ d → ∀ (w : World) (P N v : Value) (t : Tre) (par : Int), TL B0 w P N t.ps t.ns → B0 ≤ w.heap.size → t.ns.length = t.ps.length → t.ps.length + sizeR r ≤ 100000 →
    RAt (fun b => P.ownBlock ≠ some b ∧ N.ownBlock ≠ some b) w r v → Calls Tryz.prog 175 #[.agg #[P, N], v, .int .i64 par] w (WtPost B0 w P N t r par) := by
  intro d
  induction d with
  | zero => intro r hr; have := sizeR_pos r; omega
  | succ d ih =>
  intro r hr w P N v t par hTL hB0 hnl hbd hv
  cases r with
  | node nm ks =>
    obtain ⟨xb, kp, kc, vs, rfl, hS, c0, c1, hk, hs⟩ := hv.open
    simp only [RT.nm, RT.kids] at c0 c1 hk hs
    have hkl := len_sizeRs ks
    rw [sizeR] at hr hbd
    obtain ⟨pp, pc, rfl, _, _⟩ := SlAt.open hTL.pown.ints
    obtain ⟨np, nc, rfl, _, _⟩ := SlAt.open hTL.nown.strs
    have HIH := Lib.hid ih
    have HNL := Lib.hid hnl
    have hal1 := Up.alloc w (.cells #[.slice pp t.ps.length pc, .slice np t.ns.length nc] 45)
    have hal := hal1.trans (Up.alloc _ (.cells #[.slice none 0 0, .slice none 0 0] 45))
    have hsz : ((w.alloc (.cells #[.slice pp t.ps.length pc, .slice np t.ns.length nc] 45)).alloc (.cells #[.slice none 0 0, .slice none 0 0] 45)).heap.size = w.heap.size + 2 := by simp
    have hb1 : ((w.alloc (.cells #[.slice pp t.ps.length pc, .slice np t.ns.length nc] 45)).alloc (.cells #[.slice none 0 0, .slice none 0 0] 45)).heap[w.heap.size]? = some (Obj.cells #[.slice pp t.ps.length pc, .slice np t.ns.length nc] 45 (0, 0)) :=
      (Below.block (Up.alloc (w.alloc (.cells #[.slice pp t.ps.length pc, .slice np t.ns.length nc] 45)) _) w.heap.size (by rw [World.size_alloc]; omega)).trans (World.alloc_heap_new _ _)
    have hrb := box_at (w := w.alloc (.cells #[.slice pp t.ps.length pc, .slice np t.ns.length nc] 45)) (P := .slice none 0 0) (N := .slice none 0 0) (T := 45)
    rw [World.size_alloc] at hrb
    have hpl : ∀ b, (Value.slice pp t.ps.length pc).ownBlock = some b → b < w.heap.size := fun b hb => (ownBlock_lt hTL.pown hb).2
    have hnl2 : ∀ b, (Value.slice np t.ns.length nc).ownBlock = some b → b < w.heap.size := fun b hb => (ownBlock_lt hTL.nown hb).2
    have HG : Hid (GW w.heap.size B0 ((w.alloc (.cells #[.slice pp t.ps.length pc, .slice np t.ns.length nc] 45)).alloc (.cells #[.slice none 0 0, .slice none 0 0] 45)) (.slice pp t.ps.length pc) (.slice np t.ns.length nc) t) :=
      ⟨hb1, hTL.up hal, ⟨fun e => by have := hpl _ e; omega, fun e => by have := hnl2 _ e; omega⟩, by omega⟩
    have HC0 := Lib.hid (hal.cell c0)
    have HC1 := Lib.hid (hal.cell c1)
    have hxl : xb < w.heap.size := World.block_lt_of_cell? w _ c0
    have HKS : Hid (SlAt (fun b => b < w.heap.size ∧ (Value.slice pp t.ps.length pc).ownBlock ≠ some b ∧ (Value.slice np t.ns.length nc).ownBlock ≠ some b) ((w.alloc (.cells #[.slice pp t.ps.length pc, .slice np t.ns.length nc] 45)).alloc (.cells #[.slice none 0 0, .slice none 0 0] 45)) (.slice kp ks.length kc) ks.length (vN vs)) :=
      (hk.sub (T := fun b => b < w.heap.size ∧ (Value.slice pp t.ps.length pc).ownBlock ≠ some b ∧ (Value.slice np t.ns.length nc).ownBlock ≠ some b) fun b hb hl => ⟨hl, hb⟩).keep (hal.kept _)
    have HRS : Hid (RsAt (fun b => b < w.heap.size ∧ (Value.slice pp t.ps.length pc).ownBlock ≠ some b ∧ (Value.slice np t.ns.length nc).ownBlock ≠ some b) ((w.alloc (.cells #[.slice pp t.ps.length pc, .slice np t.ns.length nc] 45)).alloc (.cells #[.slice none 0 0, .slice none 0 0] 45)) ks vs) :=
      RsAt.keep (hal.kept _) ks (RsAt.sub (fun b hb hl => ⟨hl, hb⟩) ks hs)
    have HRB := Lib.hid hrb
    have HSZ := Lib.hid hsz
    have HUW := Lib.hid hal
    have HS := Lib.hid hS
    have HPB := Lib.hid hpl
    have HNB := Lib.hid hnl2
    have HBD := Lib.hid hbd
    have HAP := Lib.hid (app_node t nm ks par)
    have HKL := Lib.hid hkl
    have HR := Lib.hid hr
    have hb10 := HG.out.cells.1
    clear ih hv hal1 hal hb1 hrb hpl hnl2 hTL hk hs hnl c0 c1 hS hbd hkl hr
    go_enter Tryz.func175, Tryz.ntmps175
    go_wp2_with fail
    clear hb10
    generalize (w.alloc (.cells #[.slice pp t.ps.length pc, .slice np t.ns.length nc] 45)).alloc (.cells #[.slice none 0 0, .slice none 0 0] 45) = w2 at *
    generalize htb : w.heap.size = tb at *
    have HSEE : Hid (∀ (W : World) (P' N' : Value), GK tb w2 W (.slice pp t.ps.length pc) (.slice np t.ns.length nc) P' N' → W.cell? ⟨xb, 0, none⟩ = some (.string nm) ∧ W.cell? ⟨xb, 1, none⟩ = some (.slice kp ks.length kc)) := fun W P' N' hk => by
      have h1 := hk.block xb (by rw [HSZ.out]; omega) (by omega) (fun e => HS.out.1 e.symm) (fun e => HS.out.2 e.symm)
      exact ⟨(World.cell?_of_block (a := ⟨xb, 0, none⟩) h1).trans HC0.out, (World.cell?_of_block (a := ⟨xb, 1, none⟩) h1).trans HC1.out⟩
    go_cut [] from 12 to 26 (fun wx => ∃ P' N', GW tb B0 wx P' N' (t.push par nm) ∧ GK tb w2 wx (.slice pp t.ps.length pc) (.slice np t.ns.length nc) P' N')
    case first =>
      have hd := Up.drewN w2 1
      have HGS := Lib.hid HG.out
      have HBX := Lib.hid HG.out.box
      have HRd : Hid (RW tb B0 w2 w2.drew (.slice pp t.ps.length pc) (.slice np t.ns.length nc) (.slice pp t.ps.length pc) (.slice np t.ns.length nc) t.ps t.ns) := (RW.start HG.out.tl ⟨⟨HG.out.lt, HG.out.lo.1⟩, HG.out.lo.2⟩).up hd
      have HPL : Hid (t.ps.length ≤ 1000000 ∧ t.ns.length ≤ 1000000) := by have := HBD.out; have := HNL.out; unfold Hid; omega
      have HSP : Hid (∀ {W : World} {P' N' : Value} {ps' : List Int} {ns' : List ByteArray}, RW tb B0 w2 W (.slice pp t.ps.length pc) (.slice np t.ns.length nc) P' N' ps' ns' → W.cell? ⟨tb, 0, none⟩ = some (.slice pp t.ps.length pc) ∧ W.cell? ⟨tb, 1, none⟩ = some (.slice np t.ns.length nc) ∧ W.cell? ⟨xb, 0, none⟩ = some (.string nm)) :=
        fun h => ⟨(h.cells HBX.out).1, (h.cells HBX.out).2, (HSEE.out _ _ _ h.gk).1⟩
      refine region_T (by kernel_rfl) 13 (fun w' => w'.cell? ⟨tb, 0, none⟩ = some (.slice pp t.ps.length pc) ∧ w'.cell? ⟨tb, 1, none⟩ = some (.slice np t.ns.length nc) ∧ w'.cell? ⟨xb, 0, none⟩ = some (.string nm)) (HSP.out HRd.out) (fun hS => ?_)
      simp only [List.size_toArray, List.length_cons, List.length_nil, Nat.reduceAdd, Array.replicate_succ, Array.replicate_zero, List.push_toArray, List.nil_append, List.cons_append]
      generalize w2.drew = Wd at *
      refine anyT.take (i := 0) (v := ?gv0) rfl (by kernel_rfl) (fun _ _ _ h => h) (by rfl) (fun w hSw => ?gy0) hS ?gr0
      case gy0 =>
        (try dsimp only at hSw)
        go_simp
        try with_reducible rfl
      try simp only [Act.put, List.setIfInBounds_toArray, List.set_cons_zero, List.set_cons_succ]
      refine anyT.take (i := 1) (v := ?gv1) rfl (by kernel_rfl) (fun _ _ _ h => h) (by rfl) (fun w hSw => ?gy1) hS ?gr1
      case gy1 =>
        (try dsimp only at hSw)
        go_simp
        try with_reducible rfl
      try simp only [Act.put, List.setIfInBounds_toArray, List.set_cons_zero, List.set_cons_succ]
      refine anyT.take (i := 2) (v := ?gv2) rfl (by kernel_rfl) (fun _ _ _ h => h) (by rfl) (fun w hSw => ?gy2) hS ?gr2
      case gy2 =>
        (try dsimp only at hSw)
        go_simp
        try with_reducible rfl
      try simp only [Act.put, List.setIfInBounds_toArray, List.set_cons_zero, List.set_cons_succ]
      refine anyT.take (i := 5) (v := ?gv5) rfl (by kernel_rfl) (fun _ _ _ h => h) (by rfl) (fun w hSw => ?gy5) hS ?gr5
      case gy5 =>
        (try dsimp only at hSw)
        go_simp
        try with_reducible rfl
      try simp only [Act.put, List.setIfInBounds_toArray, List.set_cons_zero, List.set_cons_succ]
      refine anyT.take (i := 6) (v := ?gv6) rfl (by kernel_rfl) (fun _ _ _ h => h) (by rfl) (fun w hSw => ?gy6) hS ?gr6
      case gy6 =>
        (try dsimp only at hSw)
        go_simp
        try with_reducible rfl
      try simp only [Act.put, List.setIfInBounds_toArray, List.set_cons_zero, List.set_cons_succ]
      refine anyT.take (i := 7) (v := ?gv7) rfl (by kernel_rfl) (fun _ _ _ h => h) (by rfl) (fun w hSw => ?gy7) hS ?gr7
      case gy7 =>
        (try dsimp only at hSw)
        go_simp
        try with_reducible rfl
      try simp only [Act.put, List.setIfInBounds_toArray, List.set_cons_zero, List.set_cons_succ]
      refine anyT.take (i := 8) (v := ?gv8) rfl (by kernel_rfl) (fun _ _ _ h => h) (by rfl) (fun w hSw => ?gy8) hS ?gr8
      case gy8 =>
        (try dsimp only at hSw)
        go_simp
        try with_reducible rfl
      try simp only [Act.put, List.setIfInBounds_toArray, List.set_cons_zero, List.set_cons_succ]
      refine anyT.take (i := 9) (v := ?gv9) rfl (by kernel_rfl) (fun _ _ _ h => h) (by rfl) (fun w hSw => ?gy9) hS ?gr9
      case gy9 =>
        (try dsimp only at hSw)
        go_simp
        try with_reducible rfl
      try simp only [Act.put, List.setIfInBounds_toArray, List.set_cons_zero, List.set_cons_succ]
      refine anyT.take (i := 10) (v := ?gv10) rfl (by kernel_rfl) (fun _ _ _ h => h) (by rfl) (fun w hSw => ?gy10) hS ?gr10
      case gy10 =>
        (try dsimp only at hSw)
        go_simp
        try with_reducible rfl
      try simp only [Act.put, List.setIfInBounds_toArray, List.set_cons_zero, List.set_cons_succ]
      refine anyT.step2 (i := 3) (i2 := 11) rfl rfl (by kernel_rfl) (fun K' hK => ?_) (fun K' hK => ?_)
      · go_simp
        have HRa : Hid (RW tb B0 _ (Wd.alloc (.cells #[.int .i64 par] 3)) _ _ _ _ _ _) := HRd.out.up (Up.alloc _ _)
        refine hK.out _ _ (fun _ => HSP.out HRa.out) (fun _ => ?_)
        try simp only [List.setIfInBounds_toArray, List.set_cons_zero, List.set_cons_succ]
        refine anyT.step2 (i := 4) (i2 := 11) rfl rfl (by kernel_rfl) (fun K' hK => ?_) (fun K' hK => ?_)
        · refine step_app1 (by rfl) _ _ _ (by rfl) B0 3 _ 8 Tryz.underlying26 Tryz.infoI (by rfl) (by decide) (by rfl) HRa.out.tl.pown (.int .i64 par) Wd.heap.size (by rfl) (cell_at_new Wd #[.int .i64 par] 3 0) (by rfl) (by rw [List.length_map]; exact HPL.out.1) (Nat.le_trans HRa.out.lo.2 HRa.out.gk.size) ?_
          intro g1 g1c We1 hog1 hgg1 hrg1 _
          have HRb : Hid (RW tb B0 _ We1 _ _ _ _ _ _) := HRa.out.appP hog1 hgg1 (hrg1.imp id (fun e => Nat.le_of_eq e.symm))
          refine hK.out _ _ (fun _ => HSP.out HRb.out) (fun _ => ?_)
          try simp only [Act.put, List.setIfInBounds_toArray, List.set_cons_zero, List.set_cons_succ]
          refine anyT.free (i := 13) (v := ?gv13a) rfl (by kernel_rfl) (fun _ _ _ h => h) (by rfl) (fun w => ?gy13a) (fun _ => HSP.out HRb.out) ?gr13a
          case gy13a =>
            go_simp
            try with_reducible rfl
          try simp only [Act.put, List.setIfInBounds_toArray, List.set_cons_zero, List.set_cons_succ]
          refine anyT.step (i := 11) rfl (by kernel_rfl) (fun K' hK => ?_)
          go_simp
          have HRc : Hid (RW tb B0 _ (We1.alloc (.cells #[.string nm] 9)) _ _ _ _ _ _) := HRb.out.up (Up.alloc _ _)
          refine hK.out _ _ (fun _ => HSP.out HRc.out) (fun _ => ?_)
          try simp only [List.setIfInBounds_toArray, List.set_cons_zero, List.set_cons_succ]
          refine anyT.step (i := 12) rfl (by kernel_rfl) (fun K' hK => ?_)
          refine step_app1 (by rfl) _ _ _ (by rfl) B0 9 _ 16 Tryz.underlying43 Tryz.infoStr2 (by rfl) (by decide) (by rfl) HRc.out.tl.nown (.string nm) We1.heap.size (by rfl) (cell_at_new We1 #[.string nm] 9 0) (by rfl) (by rw [List.length_map]; exact HPL.out.2) (Nat.le_trans HRc.out.lo.2 HRc.out.gk.size) ?_
          intro g2 g2c We2 hog2 hgg2 hrg2 _
          have HRf : Hid (RW tb B0 _ We2 _ _ _ _ _ _) := HRc.out.appN hog2 hgg2 (hrg2.imp id (fun e => Nat.le_of_eq e.symm))
          refine hK.out _ _ (fun _ => HSP.out HRf.out) (fun _ => ?_)
          try simp only [Act.put, List.setIfInBounds_toArray, List.set_cons_zero, List.set_cons_succ]
          obtain ⟨hbe, hbe1⟩ := HRf.out.cells HBX.out
          have hfe := HRf.out.frozen HBX.out 0
          have hfe1 := HRf.out.frozen HBX.out 1
          have HFIN := Lib.hid (HRf.out.store HGS.out)
          refine anyT.step (i := 14) rfl (by kernel_rfl) (fun K' hK => ?_)
          go_simp
          refine hK.out _ _ (not_more (by kernel_rfl)) (fun _ => ?_)
          try simp only [List.setIfInBounds_toArray, List.set_cons_zero, List.set_cons_succ]
          refine anyT.free (i := 15) (v := ?gv15a) rfl (by kernel_rfl) (fun _ _ _ h => h) (by rfl) (fun w => ?gy15a) (not_more (by kernel_rfl)) ?gr15a
          case gy15a =>
            go_simp
            try with_reducible rfl
          try simp only [Act.put, List.setIfInBounds_toArray, List.set_cons_zero, List.set_cons_succ]
          refine anyT.step (i := 16) rfl (by kernel_rfl) (fun K' hK => ?_)
          go_simp
          refine hK.out _ _ (not_more (by kernel_rfl)) (fun _ => ?_)
          refine anyT.done (by kernel_rfl) ?_
          go_wp2_with fail
          go_meet
          case rel =>
            have hfin := HFIN.out
            simp only [List.length_map] at hfin
            exact ⟨_, _, hfin.1, hfin.2⟩
        · go_simp
          have HRb : Hid (RW tb B0 _ ((Wd.alloc (.cells #[.int .i64 par] 3)).alloc (.cells #[.string nm] 9)) _ _ _ _ _ _) := HRa.out.up (Up.alloc _ _)
          refine hK.out _ _ (fun _ => HSP.out HRb.out) (fun _ => ?_)
          try simp only [List.setIfInBounds_toArray, List.set_cons_zero, List.set_cons_succ]
          have hcN := cell_at_new (Wd.alloc (.cells #[.int .i64 par] 3)) #[.string nm] 9 0
          have hcP := (Up.alloc (Wd.alloc (.cells #[.int .i64 par] 3)) (.cells #[.string nm] 9)).cell (cell_at_new Wd #[.int .i64 par] 3 0)
          rw [World.size_alloc] at hcN
          refine anyT.step (i := 4) rfl (by kernel_rfl) (fun K' hK => ?_)
          refine step_app1 (by rfl) _ _ _ (by rfl) B0 3 _ 8 Tryz.underlying26 Tryz.infoI (by rfl) (by decide) (by rfl) HRb.out.tl.pown (.int .i64 par) Wd.heap.size (by rfl) hcP (by rfl) (by rw [List.length_map]; exact HPL.out.1) (Nat.le_trans HRb.out.lo.2 HRb.out.gk.size) ?_
          intro g1 g1c We1 hog1 hgg1 hrg1 _
          have HRc : Hid (RW tb B0 _ We1 _ _ _ _ _ _) := HRb.out.appP hog1 hgg1 (hrg1.imp id (fun e => Nat.le_of_eq e.symm))
          have hcN1 : We1.cell? ⟨Wd.heap.size + 1, 0, none⟩ = some (.string nm) := by
            rw [hgg1.cell_far ⟨Wd.heap.size + 1, 0, none⟩ (by simp) (fun e => absurd (ownBlock_lt HRd.out.tl.pown e.symm).2 (by show ¬ (Wd.heap.size + 1 < Wd.heap.size); omega))]; exact hcN
          refine hK.out _ _ (fun _ => HSP.out HRc.out) (fun _ => ?_)
          try simp only [Act.put, List.setIfInBounds_toArray, List.set_cons_zero, List.set_cons_succ]
          refine anyT.free (i := 13) (v := ?gv13b) rfl (by kernel_rfl) (fun _ _ _ h => h) (by rfl) (fun w => ?gy13b) (fun _ => HSP.out HRc.out) ?gr13b
          case gy13b =>
            go_simp
            try with_reducible rfl
          try simp only [Act.put, List.setIfInBounds_toArray, List.set_cons_zero, List.set_cons_succ]
          refine anyT.step (i := 12) rfl (by kernel_rfl) (fun K' hK => ?_)
          refine step_app1 (by rfl) _ _ _ (by rfl) B0 9 _ 16 Tryz.underlying43 Tryz.infoStr2 (by rfl) (by decide) (by rfl) HRc.out.tl.nown (.string nm) (Wd.heap.size + 1) (by rfl) hcN1 (by rfl) (by rw [List.length_map]; exact HPL.out.2) (Nat.le_trans HRc.out.lo.2 HRc.out.gk.size) ?_
          intro g2 g2c We2 hog2 hgg2 hrg2 _
          have HRf : Hid (RW tb B0 _ We2 _ _ _ _ _ _) := HRc.out.appN hog2 hgg2 (hrg2.imp id (fun e => Nat.le_of_eq e.symm))
          refine hK.out _ _ (fun _ => HSP.out HRf.out) (fun _ => ?_)
          try simp only [Act.put, List.setIfInBounds_toArray, List.set_cons_zero, List.set_cons_succ]
          obtain ⟨hbe, hbe1⟩ := HRf.out.cells HBX.out
          have hfe := HRf.out.frozen HBX.out 0
          have hfe1 := HRf.out.frozen HBX.out 1
          have HFIN := Lib.hid (HRf.out.store HGS.out)
          refine anyT.step (i := 14) rfl (by kernel_rfl) (fun K' hK => ?_)
          go_simp
          refine hK.out _ _ (not_more (by kernel_rfl)) (fun _ => ?_)
          try simp only [List.setIfInBounds_toArray, List.set_cons_zero, List.set_cons_succ]
          refine anyT.free (i := 15) (v := ?gv15b) rfl (by kernel_rfl) (fun _ _ _ h => h) (by rfl) (fun w => ?gy15b) (not_more (by kernel_rfl)) ?gr15b
          case gy15b =>
            go_simp
            try with_reducible rfl
          try simp only [Act.put, List.setIfInBounds_toArray, List.set_cons_zero, List.set_cons_succ]
          refine anyT.step (i := 16) rfl (by kernel_rfl) (fun K' hK => ?_)
          go_simp
          refine hK.out _ _ (not_more (by kernel_rfl)) (fun _ => ?_)
          refine anyT.done (by kernel_rfl) ?_
          go_wp2_with fail
          go_meet
          case rel =>
            have hfin := HFIN.out
            simp only [List.length_map] at hfin
            exact ⟨_, _, hfin.1, hfin.2⟩
      · go_simp
        have HRa : Hid (RW tb B0 _ (Wd.alloc (.cells #[.string nm] 9)) _ _ _ _ _ _) := HRd.out.up (Up.alloc _ _)
        refine hK.out _ _ (fun _ => HSP.out HRa.out) (fun _ => ?_)
        try simp only [List.setIfInBounds_toArray, List.set_cons_zero, List.set_cons_succ]
        refine anyT.step (i := 3) rfl (by kernel_rfl) (fun K' hK => ?_)
        go_simp
        have HRb : Hid (RW tb B0 _ ((Wd.alloc (.cells #[.string nm] 9)).alloc (.cells #[.int .i64 par] 3)) _ _ _ _ _ _) := HRa.out.up (Up.alloc _ _)
        refine hK.out _ _ (fun _ => HSP.out HRb.out) (fun _ => ?_)
        try simp only [List.setIfInBounds_toArray, List.set_cons_zero, List.set_cons_succ]
        have hcP := cell_at_new (Wd.alloc (.cells #[.string nm] 9)) #[.int .i64 par] 3 0
        have hcN := (Up.alloc (Wd.alloc (.cells #[.string nm] 9)) (.cells #[.int .i64 par] 3)).cell (cell_at_new Wd #[.string nm] 9 0)
        rw [World.size_alloc] at hcP
        refine anyT.step (i := 4) rfl (by kernel_rfl) (fun K' hK => ?_)
        refine step_app1 (by rfl) _ _ _ (by rfl) B0 3 _ 8 Tryz.underlying26 Tryz.infoI (by rfl) (by decide) (by rfl) HRb.out.tl.pown (.int .i64 par) (Wd.heap.size + 1) (by rfl) hcP (by rfl) (by rw [List.length_map]; exact HPL.out.1) (Nat.le_trans HRb.out.lo.2 HRb.out.gk.size) ?_
        intro g1 g1c We1 hog1 hgg1 hrg1 _
        have HRc : Hid (RW tb B0 _ We1 _ _ _ _ _ _) := HRb.out.appP hog1 hgg1 (hrg1.imp id (fun e => Nat.le_of_eq e.symm))
        have hcN1 : We1.cell? ⟨Wd.heap.size, 0, none⟩ = some (.string nm) := by
          rw [hgg1.cell_far ⟨Wd.heap.size, 0, none⟩ (by simp; omega) (fun e => absurd (ownBlock_lt HRd.out.tl.pown e.symm).2 (by show ¬ (Wd.heap.size < Wd.heap.size); omega))]; exact hcN
        refine hK.out _ _ (fun _ => HSP.out HRc.out) (fun _ => ?_)
        try simp only [Act.put, List.setIfInBounds_toArray, List.set_cons_zero, List.set_cons_succ]
        refine anyT.free (i := 13) (v := ?gv13c) rfl (by kernel_rfl) (fun _ _ _ h => h) (by rfl) (fun w => ?gy13c) (fun _ => HSP.out HRc.out) ?gr13c
        case gy13c =>
          go_simp
          try with_reducible rfl
        try simp only [Act.put, List.setIfInBounds_toArray, List.set_cons_zero, List.set_cons_succ]
        refine anyT.step (i := 12) rfl (by kernel_rfl) (fun K' hK => ?_)
        refine step_app1 (by rfl) _ _ _ (by rfl) B0 9 _ 16 Tryz.underlying43 Tryz.infoStr2 (by rfl) (by decide) (by rfl) HRc.out.tl.nown (.string nm) Wd.heap.size (by rfl) hcN1 (by rfl) (by rw [List.length_map]; exact HPL.out.2) (Nat.le_trans HRc.out.lo.2 HRc.out.gk.size) ?_
        intro g2 g2c We2 hog2 hgg2 hrg2 _
        have HRf : Hid (RW tb B0 _ We2 _ _ _ _ _ _) := HRc.out.appN hog2 hgg2 (hrg2.imp id (fun e => Nat.le_of_eq e.symm))
        refine hK.out _ _ (fun _ => HSP.out HRf.out) (fun _ => ?_)
        try simp only [Act.put, List.setIfInBounds_toArray, List.set_cons_zero, List.set_cons_succ]
        obtain ⟨hbe, hbe1⟩ := HRf.out.cells HBX.out
        have hfe := HRf.out.frozen HBX.out 0
        have hfe1 := HRf.out.frozen HBX.out 1
        have HFIN := Lib.hid (HRf.out.store HGS.out)
        refine anyT.step (i := 14) rfl (by kernel_rfl) (fun K' hK => ?_)
        go_simp
        refine hK.out _ _ (not_more (by kernel_rfl)) (fun _ => ?_)
        try simp only [List.setIfInBounds_toArray, List.set_cons_zero, List.set_cons_succ]
        refine anyT.free (i := 15) (v := ?gv15c) rfl (by kernel_rfl) (fun _ _ _ h => h) (by rfl) (fun w => ?gy15c) (not_more (by kernel_rfl)) ?gr15c
        case gy15c =>
          go_simp
          try with_reducible rfl
        try simp only [Act.put, List.setIfInBounds_toArray, List.set_cons_zero, List.set_cons_succ]
        refine anyT.step (i := 16) rfl (by kernel_rfl) (fun K' hK => ?_)
        go_simp
        refine hK.out _ _ (not_more (by kernel_rfl)) (fun _ => ?_)
        refine anyT.done (by kernel_rfl) ?_
        go_wp2_with fail
        go_meet
        case rel =>
          have hfin := HFIN.out
          simp only [List.length_map] at hfin
          exact ⟨_, _, hfin.1, hfin.2⟩
    case rest =>
      obtain ⟨P1, N1, hG1, hK1⟩ := hcut
      have HG1 := Lib.hid hG1
      have HK1 := Lib.hid hK1
      have HT0 : Hid ((t.push par nm).apps (ks.take 0) t.ps.length = t.push par nm) := apps_nil _ _
      clear hG1 hK1
      go_wp2_with fail
      go_loopw [8] (fun i wr => ∃ (j : Nat) (P' N' : Value), j ≤ ks.length ∧ i = .int .i64 j ∧ Hid (GW tb B0 wr P' N' ((t.push par nm).apps (ks.take j) t.ps.length)) ∧ Hid (GK tb w2 wr (.slice pp t.ps.length pc) (.slice np t.ns.length nc) P' N')) (fun i _ => ks.length - (intOf i).toNat)
      case atStart => exact ⟨0, P1, N1, Nat.zero_le _, rfl, by rw [HT0.out]; exact HG1.out, HK1.out⟩
      case round =>
        obtain ⟨j, P', N', hj, rfl, hGj, hKj⟩ := hrel
        obtain ⟨wo, rfl⟩ : ∃ wo : World, wo = wr := ⟨_, rfl⟩
        have hx := HSEE.out _ _ _ hKj.out
        have hx1 := hx.2
        by_cases hlt : j < ks.length
        · have hcs := hGj.out.cells
          have hkr : Kept (fun b => b < tb ∧ (Value.slice pp t.ps.length pc).ownBlock ≠ some b ∧ (Value.slice np t.ns.length nc).ownBlock ≠ some b) w2 wo := hKj.out.keepR fun b hb _ => ⟨by omega, hb.2⟩
          obtain ⟨kb, ko, rfl, hkc⟩ := vN_get (HKS.out.keep hkr) hlt
          have hra := RAt.keep hkr _ (RsAt.get ks HRS.out j hlt)
          have hra2 : RAt (fun b => P'.ownBlock ≠ some b ∧ N'.ownBlock ≠ some b) wo (gr ks j) (vN vs j) := RAt.sub (fun b hb hl => ⟨fun e => by
            rcases hKj.out.newP b e with h1 | h1
            · exact hb.2.1 h1
            · have := hb.1; have := HSZ.out; omega, fun e => by
            rcases hKj.out.newN b e with h1 | h1
            · exact hb.2.2 h1
            · have := hb.1; have := HSZ.out; omega⟩) _ hra
          have hgs := gr_size hlt
          obtain ⟨T, hT⟩ : ∃ T, T = (t.push par nm).apps (ks.take j) t.ps.length := ⟨_, rfl⟩
          have HTS : Hid (T.app (gr ks j) (t.ps.length : Int) = (t.push par nm).apps (ks.take (j + 1)) t.ps.length) := by rw [hT]; exact apps_one _ _ hlt _
          have htl : T.ps.length = t.ps.length + 1 + sizeRs (ks.take j) ∧ T.ns.length = t.ns.length + 1 + sizeRs (ks.take j) := by
            rw [hT]; unfold Tre.apps Tre.push
            simp only [List.length_append, List.length_cons, List.length_nil, psRs_len, nsRs_len]
            exact ⟨trivial, trivial⟩
          have hsz2 := sizes_take ks hlt
          rw [← hT] at hGj
          have HCALL : Hid (∀ W, Up wo W → Calls Tryz.prog 175 #[.agg #[P', N'], vN vs j, .int .i64 (t.ps.length : Nat)] W (WtPost B0 W P' N' T (gr ks j) (t.ps.length : Nat))) := fun W hW =>
            HIH.out (gr ks j) (by have := HR.out; omega) W P' N' (vN vs j) T _ (hGj.out.tl.up hW) (Nat.le_trans hGj.out.lo.2 hW.size) (by have := HNL.out; omega) (by have := HBD.out; omega) (RAt.keep (hW.kept _) _ hra2)
          have HGJ := Lib.hid hGj.out
          have HKJ := Lib.hid hKj.out
          have i1 : (0 : Int) ≤ (j : Int) := by omega
          have i2 : (j : Int) < (ks.length : Int) := by omega
          have i3 : (j : Int) < 1000000 := by have := HKL.out; have := HBD.out; omega
          have HLT := Lib.hid hlt
          have a0 := hcs.1
          have a1 := hcs.2.1
          clear hT htl hgs hra hra2 hkr hcs hx hGj hKj hsz2 hlt hj
          generalize vN vs j = kv at *
          generalize gr ks j = r at *
          go_wp2_with fail
          refine region_T (by kernel_rfl) 10 (fun w' => w'.cell? ⟨tb, 0, none⟩ = some P' ∧ w'.cell? ⟨tb, 1, none⟩ = some N' ∧ w'.cell? ⟨xb, 1, none⟩ = some (.slice (some ⟨kb, ko, none⟩) ks.length kc) ∧ w'.cell? ⟨kb, ko + j, none⟩ = some kv) ⟨a0, a1, hx1, hkc⟩ (fun hS => ?_)
          simp only [List.size_toArray, List.length_cons, List.length_nil, Nat.reduceAdd, Array.replicate_succ, Array.replicate_zero, List.push_toArray, List.nil_append, List.cons_append]
          refine anyT.take (i := 0) (v := ?gv0k1) rfl (by kernel_rfl) (fun _ _ _ h => h) (by rfl) (fun w hSw => ?gy0k1) hS ?gr0k1
          case gy0k1 =>
            (try dsimp only at hSw)
            go_simp
            try with_reducible rfl
          try simp only [Act.put, List.setIfInBounds_toArray, List.set_cons_zero, List.set_cons_succ]
          refine anyT.take (i := 1) (v := ?gv1k1) rfl (by kernel_rfl) (fun _ _ _ h => h) (by rfl) (fun w hSw => ?gy1k1) hS ?gr1k1
          case gy1k1 =>
            (try dsimp only at hSw)
            go_simp
            try with_reducible rfl
          try simp only [Act.put, List.setIfInBounds_toArray, List.set_cons_zero, List.set_cons_succ]
          refine anyT.take (i := 2) (v := ?gv2k1) rfl (by kernel_rfl) (fun _ _ _ h => h) (by rfl) (fun w hSw => ?gy2k1) hS ?gr2k1
          case gy2k1 =>
            (try dsimp only at hSw)
            go_simp
            try with_reducible rfl
          try simp only [Act.put, List.setIfInBounds_toArray, List.set_cons_zero, List.set_cons_succ]
          refine anyT.take (i := 3) (v := ?gv3k1) rfl (by kernel_rfl) (fun _ _ _ h => h) (by rfl) (fun w hSw => ?gy3k1) hS ?gr3k1
          case gy3k1 =>
            (try dsimp only at hSw)
            go_simp
            try with_reducible rfl
          try simp only [Act.put, List.setIfInBounds_toArray, List.set_cons_zero, List.set_cons_succ]
          refine anyT.take (i := 4) (v := ?gv4k1) rfl (by kernel_rfl) (fun _ _ _ h => h) (by rfl) (fun w hSw => ?gy4k1) hS ?gr4k1
          case gy4k1 =>
            (try dsimp only at hSw)
            go_simp
            try with_reducible rfl
          try simp only [Act.put, List.setIfInBounds_toArray, List.set_cons_zero, List.set_cons_succ]
          refine anyT.take (i := 5) (v := ?gv5k1) rfl (by kernel_rfl) (fun _ _ _ h => h) (by rfl) (fun w hSw => ?gy5k1) hS ?gr5k1
          case gy5k1 =>
            (try dsimp only at hSw)
            go_simp
            try with_reducible rfl
          try simp only [Act.put, List.setIfInBounds_toArray, List.set_cons_zero, List.set_cons_succ]
          refine anyT.take (i := 6) (v := ?gv6k1) rfl (by kernel_rfl) (fun _ _ _ h => h) (by rfl) (fun w hSw => ?gy6k1) hS ?gr6k1
          case gy6k1 =>
            (try dsimp only at hSw)
            go_simp
            try with_reducible rfl
          try simp only [Act.put, List.setIfInBounds_toArray, List.set_cons_zero, List.set_cons_succ]
          refine anyT.take (i := 7) (v := ?gv7k1) rfl (by kernel_rfl) (fun _ _ _ h => h) (by rfl) (fun w hSw => ?gy7k1) hS ?gr7k1
          case gy7k1 =>
            (try dsimp only at hSw)
            go_simp
            try with_reducible rfl
          try simp only [Act.put, List.setIfInBounds_toArray, List.set_cons_zero, List.set_cons_succ]
          refine anyT.take (i := 8) (v := ?gv8k1) rfl (by kernel_rfl) (fun _ _ _ h => h) (by rfl) (fun w hSw => ?gy8k1) hS ?gr8k1
          case gy8k1 =>
            (try dsimp only at hSw)
            go_simp
            try with_reducible rfl
          try simp only [Act.put, List.setIfInBounds_toArray, List.set_cons_zero, List.set_cons_succ]
          refine anyT.step (i := 9) rfl (by kernel_rfl) (fun K' hK => ?_)
          go_simp
          refine (HCALL.out _ (drew_up3 wo)).mono ?_
          rintro e w3 ⟨P2, N2, rfl, hT3, hK3⟩
          obtain ⟨p2, c2, rfl, _, _⟩ := SlAt.open hT3.pown.ints
          obtain ⟨q2, e2, rfl, _, _⟩ := SlAt.open hT3.nown.strs
          have hfz := wt_frozen HGJ.out hK3
          have hf0 := hfz 0
          have hf1 := hfz 1
          have hw0 : w3.cell? ⟨tb, 0, none⟩ = some P' := (World.cell?_of_block (a := ⟨tb, 0, none⟩) (wt_same HGJ.out hK3)).trans HGJ.out.cells.1
          have hw1 : w3.cell? ⟨tb, 1, none⟩ = some N' := (World.cell?_of_block (a := ⟨tb, 1, none⟩) (wt_same HGJ.out hK3)).trans HGJ.out.cells.2.1
          have HPUT := Lib.hid (HGJ.out.put (u := T.app r (t.ps.length : Int)) (wt_gk HGJ.out hK3) (wt_same HGJ.out hK3) hT3)
          clear hfz hT3 hK3
          refine hK.out _ _ (not_more (by kernel_rfl)) (fun hS => ?_)
          try simp only [List.setIfInBounds_toArray, List.set_cons_zero, List.set_cons_succ]
          refine anyT.step (i := 10) rfl (by kernel_rfl) (fun K' hK => ?_)
          go_simp
          refine hK.out _ _ (not_more (by kernel_rfl)) (fun hS => ?_)
          refine anyT.done (by kernel_rfl) ?_
          go_wp2_with fail
          go_roundw
          case rel => exact ⟨j + 1, _, _, HLT.out, by go_num, by rw [← HTS.out]; exact HPUT.out.1, HKJ.out.trans HPUT.out.2⟩
          case measure => have := HLT.out; simp [intOf]; omega
        · obtain rfl : j = ks.length := by omega
          have hcs := hGj.out.cells
          have a0 := hcs.1
          have a1 := hcs.2.1
          have hrb : wo.heap[tb + 1]? = some (Obj.cells #[.slice none 0 0, .slice none 0 0] 45 (0, 0)) :=
            (hKj.out.block (tb + 1) (by rw [HSZ.out]; omega) (by omega) (fun e => by have := HPB.out _ e.symm; omega) (fun e => by have := HNB.out _ e.symm; omega)).trans HRB.out
          obtain ⟨r0, r1, r2, r3⟩ : wo.cell? ⟨tb + 1, 0, none⟩ = some (.slice none 0 0) ∧ wo.cell? ⟨tb + 1, 1, none⟩ = some (.slice none 0 0) ∧ wo.frozen? ⟨tb + 1, 0, none⟩ = false ∧ wo.frozen? ⟨tb + 1, 1, none⟩ = false := by
            refine ⟨?_, ?_, ?_, ?_⟩ <;> simp [World.cell?, World.frozen?, hrb]
          have hGf := hGj.out
          rw [List.take_length, HAP.out] at hGf
          have HGF := Lib.hid hGf
          have HKF := Lib.hid hKj.out
          obtain ⟨pq, pcq, rfl, _, _⟩ := SlAt.open hGf.tl.pown.ints
          obtain ⟨nq, ncq, rfl, _, _⟩ := SlAt.open hGf.tl.nown.strs
          have HRBX := Lib.hid hrb
          clear hcs hGj hKj hGf hx hlt hj hrb
          go_wp2_with fail
          have hset : ∀ b, b ≠ tb + 1 → ((wo.setCell ⟨tb + 1, 0, none⟩ (.slice pq (t.app (.node nm ks) par).ps.length pcq)).setCell ⟨tb + 1, 1, none⟩ (.slice nq (t.app (.node nm ks) par).ns.length ncq)).heap[b]? = wo.heap[b]? := fun b hb => by rw [blk_setCell_other _ _ _ _ hb, blk_setCell_other _ _ _ _ hb]
          have hheap : ((wo.setCell ⟨tb + 1, 0, none⟩ (.slice pq (t.app (.node nm ks) par).ps.length pcq)).setCell ⟨tb + 1, 1, none⟩ (.slice nq (t.app (.node nm ks) par).ns.length ncq)).heap[tb + 1]? = some (Obj.cells #[.slice pq (t.app (.node nm ks) par).ps.length pcq, .slice nq (t.app (.node nm ks) par).ns.length ncq] 45 (0, 0)) := by
            simp [World.setCell, Array.getElem?_modify, HRBX.out]
          have hsf : ((wo.setCell ⟨tb + 1, 0, none⟩ (.slice pq (t.app (.node nm ks) par).ps.length pcq)).setCell ⟨tb + 1, 1, none⟩ (.slice nq (t.app (.node nm ks) par).ns.length ncq)).heap.size = wo.heap.size := by simp [World.size_setCell]
          have hos : ((wo.setCell ⟨tb + 1, 0, none⟩ (.slice pq (t.app (.node nm ks) par).ps.length pcq)).setCell ⟨tb + 1, 1, none⟩ (.slice nq (t.app (.node nm ks) par).ns.length ncq)).os = wo.os ∧ ((wo.setCell ⟨tb + 1, 0, none⟩ (.slice pq (t.app (.node nm ks) par).ps.length pcq)).setCell ⟨tb + 1, 1, none⟩ (.slice nq (t.app (.node nm ks) par).ns.length ncq)).tape = wo.tape ∧ ((wo.setCell ⟨tb + 1, 0, none⟩ (.slice pq (t.app (.node nm ks) par).ps.length pcq)).setCell ⟨tb + 1, 1, none⟩ (.slice nq (t.app (.node nm ks) par).ns.length ncq)).output = wo.output := ⟨rfl, rfl, rfl⟩
          generalize (wo.setCell ⟨tb + 1, 0, none⟩ (.slice pq (t.app (.node nm ks) par).ps.length pcq)).setCell ⟨tb + 1, 1, none⟩ (.slice nq (t.app (.node nm ks) par).ns.length ncq) = wf at *
          have hr0 : wf.cell? ⟨tb + 1, 0, none⟩ = some (.slice pq (t.app (.node nm ks) par).ps.length pcq) := by simp [World.cell?, hheap]
          have hr1 : wf.cell? ⟨tb + 1, 1, none⟩ = some (.slice nq (t.app (.node nm ks) par).ns.length ncq) := by simp [World.cell?, hheap]
          refine ⟨rfl, .agg #[.slice pq (t.app (.node nm ks) par).ps.length pcq, .slice nq (t.app (.node nm ks) par).ns.length ncq], by simp [results, Tryz.results175, go_sem, hr0, hr1], ?_⟩
          have hs2 := HSZ.out
          have hnp : ∀ b, (Value.slice pq (t.app (.node nm ks) par).ps.length pcq).ownBlock = some b → (Value.slice pp t.ps.length pc).ownBlock = some b ∨ w2.heap.size ≤ b := HKF.out.newP
          have hnn : ∀ b, (Value.slice nq (t.app (.node nm ks) par).ns.length ncq).ownBlock = some b → (Value.slice np t.ns.length nc).ownBlock = some b ∨ w2.heap.size ≤ b := HKF.out.newN
          have hne1 : ∀ b, (Value.slice pq (t.app (.node nm ks) par).ps.length pcq).ownBlock = some b → b ≠ tb + 1 := fun b hb => by
            rcases hnp b hb with h1 | h1
            · have := HPB.out b h1; omega
            · omega
          have hne2 : ∀ b, (Value.slice nq (t.app (.node nm ks) par).ns.length ncq).ownBlock = some b → b ≠ tb + 1 := fun b hb => by
            rcases hnn b hb with h1 | h1
            · have := HNB.out b h1; omega
            · omega
          have hko := HKF.out.size
          refine ⟨_, _, rfl, ⟨HGF.out.tl.pown.same2 fun b hb => hset b (hne1 b hb), HGF.out.tl.nown.same2 fun b hb => hset b (hne2 b hb), HGF.out.tl.apart⟩, hos.1.trans (HKF.out.os.trans HUW.out.os), hos.2.1.trans (HKF.out.tape.trans HUW.out.tape), hos.2.2.trans (HKF.out.output.trans HUW.out.output), by omega, fun b hb h1 h2 h3 => ?_, fun b hb => ?_, fun b hb => ?_⟩
          · rw [hset b (by omega), HKF.out.block b (by omega) (by omega) h2 h3]
            exact HUW.out.block b hb
          · rcases hnp b hb with h1 | h1
            · exact .inl h1
            · exact .inr (by omega)
          · rcases hnn b hb with h1 | h1
            · exact .inl h1
            · exact .inr (by omega)
end Go.Proofs.YtpjijbophjdgaaaGreat
