/- Two lists that grow in place: for 't.Parents, t.Names = append(..), append(..)' in a region that draws its order. -/
import Derived.Test.YtpjijbophjdgaaaGreatQ14
import Derived.Test.YtpjijbophjdgaaaGreatQ10
namespace Go.Proofs.YtpjijbophjdgaaaGreat
open Go.RowKit Go.Deep
theorem Tryz.infoStr2 : (Tryz.prog.info? 9).map (fun i => (i.zero, i.size, i.bytes)) = some (some (.string ⟨#[]⟩), 1, 16) := by kernel_rfl
structure GK (tb : Nat) (w W : World) (P N P' N' : Value) : Prop where
  os : W.os = w.os
  tape : W.tape = w.tape
  output : W.output = w.output
  size : w.heap.size ≤ W.heap.size
  block : ∀ b, b < w.heap.size → b ≠ tb → some b ≠ P.ownBlock → some b ≠ N.ownBlock → W.heap[b]? = w.heap[b]?
  newP : ∀ b, P'.ownBlock = some b → P.ownBlock = some b ∨ w.heap.size ≤ b
  newN : ∀ b, N'.ownBlock = some b → N.ownBlock = some b ∨ w.heap.size ≤ b
theorem GK.refl (tb : Nat) (w : World) (P N : Value) : GK tb w w P N P N := ⟨rfl, rfl, rfl, Nat.le_refl _, fun _ _ _ _ _ => rfl, fun _ h => .inl h, fun _ h => .inl h⟩
theorem GK.trans {tb : Nat} {w W X : World} {P N P' N' P2 N2 : Value} (h : GK tb w W P N P' N') (k : GK tb W X P' N' P2 N2) : GK tb w X P N P2 N2 :=
  ⟨k.os.trans h.os, k.tape.trans h.tape, k.output.trans h.output, Nat.le_trans h.size k.size, fun b hb h1 h2 h3 => by
    rw [← h.block b hb h1 h2 h3]
    refine k.block b (Nat.lt_of_lt_of_le hb h.size) h1 (fun e => ?_) (fun e => ?_)
    · rcases h.newP b e.symm with h4 | h4
      · exact h2 h4.symm
      · omega
    · rcases h.newN b e.symm with h4 | h4
      · exact h3 h4.symm
      · omega,
    fun b hb => by
      rcases k.newP b hb with h4 | h4
      · exact h.newP b h4
      · exact .inr (Nat.le_trans h.size h4),
    fun b hb => by
      rcases k.newN b hb with h4 | h4
      · exact h.newN b h4
      · exact .inr (Nat.le_trans h.size h4)⟩
theorem GK.up {tb : Nat} {w W X : World} {P N P' N' : Value} (h : GK tb w W P N P' N') (k : Up W X) : GK tb w X P N P' N' :=
  ⟨k.os.trans h.os, k.tape.trans h.tape, k.output.trans h.output, Nat.le_trans h.size k.size, fun b hb h1 h2 h3 => (Below.block k b (Nat.lt_of_lt_of_le hb h.size)).trans (h.block b hb h1 h2 h3), h.newP, h.newN⟩
theorem GK.of_up {tb : Nat} {w W : World} {P N : Value} (k : Up w W) : GK tb w W P N P N := (GK.refl tb w P N).up k
structure TL (B0 : Nat) (W : World) (P N : Value) (ps : List Int) (ns : List ByteArray) : Prop where
  pown : Owns B0 3 W P (ps.map (Value.int .i64))
  nown : Owns B0 9 W N (ns.map Value.string)
  apart : ∀ b, P.ownBlock = some b → N.ownBlock ≠ some b
theorem Owns.same2 {base : Nat} {e : TypeId} {w w' : World} {v : Value} {vs : List Value} (h : Owns base e w v vs) (k : ∀ b, v.ownBlock = some b → w'.heap[b]? = w.heap[b]?) : Owns base e w' v vs := by
  refine ⟨h.1, ?_⟩
  rcases h.2 with h0 | ⟨g, cap, cur, rfl, hg, hc, hr⟩
  · exact .inl h0
  · exact .inr ⟨g, cap, cur, rfl, hg, (k g rfl).trans hc, hr⟩
structure RS (tb B0 : Nat) (w W : World) (P N Pv Nv : Value) (ps : List Int) (ns : List ByteArray) : Prop where
  gk : GK tb w W P N Pv Nv
  tl : TL B0 W Pv Nv ps ns
  same : W.heap[tb]? = w.heap[tb]?
  lo : tb < B0 ∧ B0 ≤ w.heap.size
section
variable {tb B0 : Nat} {w W W' : World} {P N Pv Nv : Value} {ps : List Int} {ns : List ByteArray}
theorem RS.start (h : TL B0 w P N ps ns) (hl : tb < B0 ∧ B0 ≤ w.heap.size) : RS tb B0 w w P N P N ps ns := ⟨GK.refl _ _ _ _, h, rfl, hl⟩
theorem TL.up (h : TL B0 W Pv Nv ps ns) (hu : Up W W') : TL B0 W' Pv Nv ps ns :=
  ⟨h.pown.same2 fun b hb => Below.block hu b (ownBlock_lt h.pown hb).2, h.nown.same2 fun b hb => Below.block hu b (ownBlock_lt h.nown hb).2, h.apart⟩
theorem RS.up (h : RS tb B0 w W P N Pv Nv ps ns) (hu : Up W W') : RS tb B0 w W' P N Pv Nv ps ns :=
  ⟨h.gk.up hu, h.tl.up hu, (Below.block hu tb (by have := h.gk.size; have := h.lo; omega)).trans h.same, h.lo⟩
theorem RS.appP (h : RS tb B0 w W P N Pv Nv ps ns) {g cap k : Nat} {u : Int} (ho : Owns B0 3 W' (.slice (some ⟨g, 0, none⟩) k cap) (ps.map (Value.int .i64) ++ [.int .i64 u])) (hg : W.grownBy W' Pv.ownBlock) (hor : Pv.ownBlock = some g ∨ W.heap.size ≤ g) :
    RS tb B0 w W' P N (.slice (some ⟨g, 0, none⟩) k cap) Nv (ps ++ [u]) ns := by
  have hlo := h.lo
  have hsz := h.gk.size
  refine ⟨⟨hg.os.trans h.gk.os, hg.tape.trans h.gk.tape, hg.output.trans h.gk.output, Nat.le_trans hsz hg.size, fun b hb h1 h2 h3 => ?_, fun b hb => ?_, h.gk.newN⟩, ⟨by rw [List.map_append]; exact ho, h.tl.nown.same2 fun b hb => hg.block b (ownBlock_lt h.tl.nown hb).2 (fun e => h.tl.apart b e.symm hb), fun b hb hb2 => ?_⟩, (hg.block tb (by omega) (fun e => by have := (ownBlock_lt h.tl.pown e.symm).1; omega)).trans h.same, hlo⟩
  · rw [← h.gk.block b hb h1 h2 h3]
    refine hg.block b (by omega) fun e => ?_
    rcases h.gk.newP b e.symm with h4 | h4
    · exact h2 h4.symm
    · omega
  · injection hb with hb
    have hb : g = b := hb
    subst hb
    rcases hor with h4 | h4
    · exact h.gk.newP g h4
    · exact .inr (by omega)
  · injection hb with hb
    have hb : g = b := hb
    subst hb
    rcases hor with h1 | h1
    · exact h.tl.apart g h1 hb2
    · have := (ownBlock_lt h.tl.nown hb2).2; omega
theorem RS.appN (h : RS tb B0 w W P N Pv Nv ps ns) {g cap k : Nat} {u : ByteArray} (ho : Owns B0 9 W' (.slice (some ⟨g, 0, none⟩) k cap) (ns.map Value.string ++ [.string u])) (hg : W.grownBy W' Nv.ownBlock) (hor : Nv.ownBlock = some g ∨ W.heap.size ≤ g) :
    RS tb B0 w W' P N Pv (.slice (some ⟨g, 0, none⟩) k cap) ps (ns ++ [u]) := by
  have hlo := h.lo
  have hsz := h.gk.size
  refine ⟨⟨hg.os.trans h.gk.os, hg.tape.trans h.gk.tape, hg.output.trans h.gk.output, Nat.le_trans hsz hg.size, fun b hb h1 h2 h3 => ?_, h.gk.newP, fun b hb => ?_⟩, ⟨h.tl.pown.same2 fun b hb => hg.block b (ownBlock_lt h.tl.pown hb).2 (fun e => h.tl.apart b hb e.symm), by rw [List.map_append]; exact ho, fun b hb hb2 => ?_⟩, (hg.block tb (by omega) (fun e => by have := (ownBlock_lt h.tl.nown e.symm).1; omega)).trans h.same, hlo⟩
  · rw [← h.gk.block b hb h1 h2 h3]
    refine hg.block b (by omega) fun e => ?_
    rcases h.gk.newN b e.symm with h4 | h4
    · exact h3 h4.symm
    · omega
  · injection hb with hb
    have hb : g = b := hb
    subst hb
    rcases hor with h4 | h4
    · exact h.gk.newN g h4
    · exact .inr (by omega)
  · injection hb2 with hb2
    have hb2 : g = b := hb2
    subst hb2
    rcases hor with h1 | h1
    · exact h.tl.apart g hb h1
    · have := (ownBlock_lt h.tl.pown hb).2; omega
end
structure GS (tb B0 : Nat) (W : World) (P N : Value) (t : Tre) : Prop where
  box : W.heap[tb]? = some (Obj.cells #[P, N] 45 (0, 0))
  tl : TL B0 W P N t.ps t.ns
  lo : tb < B0 ∧ B0 ≤ W.heap.size
theorem GS.cells {tb B0 : Nat} {W : World} {P N : Value} {t : Tre} (h : GS tb B0 W P N t) : W.cell? ⟨tb, 0, none⟩ = some P ∧ W.cell? ⟨tb, 1, none⟩ = some N ∧ W.frozen? ⟨tb, 0, none⟩ = false ∧ W.frozen? ⟨tb, 1, none⟩ = false := by
  refine ⟨?_, ?_, ?_, ?_⟩ <;> simp [World.cell?, World.frozen?, h.box]
theorem GS.up {tb B0 : Nat} {W W' : World} {P N : Value} {t : Tre} (h : GS tb B0 W P N t) (hu : Up W W') : GS tb B0 W' P N t :=
  ⟨(Below.block hu tb (by have := h.lo; omega)).trans h.box, h.tl.up hu, ⟨h.lo.1, Nat.le_trans h.lo.2 hu.size⟩⟩
def Tre.push (t : Tre) (p : Int) (s : ByteArray) : Tre := ⟨t.ps ++ [p], t.ns ++ [s]⟩
theorem RS.cells {tb B0 : Nat} {w W : World} {P N Pv Nv P0 N0 : Value} {ps : List Int} {ns : List ByteArray} (h : RS tb B0 w W P N Pv Nv ps ns) (hb : w.heap[tb]? = some (Obj.cells #[P0, N0] 45 (0, 0))) :
    W.cell? ⟨tb, 0, none⟩ = some P0 ∧ W.cell? ⟨tb, 1, none⟩ = some N0 := by
  have h1 := h.same.trans hb
  exact ⟨by simp [World.cell?, h1], by simp [World.cell?, h1]⟩
theorem RS.frozen {tb B0 : Nat} {w W : World} {P N Pv Nv P0 N0 : Value} {ps : List Int} {ns : List ByteArray} (h : RS tb B0 w W P N Pv Nv ps ns) (hb : w.heap[tb]? = some (Obj.cells #[P0, N0] 45 (0, 0))) (o : Nat) :
    W.frozen? ⟨tb, o, none⟩ = false := by
  have h1 := h.same.trans hb
  simp [World.frozen?, h1]
theorem RS.store {tb B0 : Nat} {w W : World} {P N Pv Nv : Value} {t : Tre} {z : Int} {nm : ByteArray} (h0 : GS tb B0 w P N t) (h : RS tb B0 w W P N Pv Nv (t.ps ++ [z]) (t.ns ++ [nm])) :
    GS tb B0 ((W.setCell ⟨tb, 0, none⟩ Pv).setCell ⟨tb, 1, none⟩ Nv) Pv Nv (t.push z nm) ∧ GK tb w ((W.setCell ⟨tb, 0, none⟩ Pv).setCell ⟨tb, 1, none⟩ Nv) P N Pv Nv := by
  have h1 := h.same.trans h0.box
  have hset : ∀ b, b ≠ tb → ((W.setCell ⟨tb, 0, none⟩ Pv).setCell ⟨tb, 1, none⟩ Nv).heap[b]? = W.heap[b]? := fun b hb => by rw [blk_setCell_other _ _ _ _ hb, blk_setCell_other _ _ _ _ hb]
  have hsz : ((W.setCell ⟨tb, 0, none⟩ Pv).setCell ⟨tb, 1, none⟩ Nv).heap.size = W.heap.size := by simp [World.size_setCell]
  refine ⟨⟨by simp [World.setCell, Array.getElem?_modify, h1], ⟨h.tl.pown.same2 fun b hb => hset b ?_, h.tl.nown.same2 fun b hb => hset b ?_, h.tl.apart⟩, h.lo.1, by rw [hsz]; exact Nat.le_trans h.lo.2 h.gk.size⟩, h.gk.os, h.gk.tape, h.gk.output, by rw [hsz]; exact h.gk.size, fun b hb h2 h3 h4 => (hset b h2).trans (h.gk.block b hb h2 h3 h4), h.gk.newP, h.gk.newN⟩
  · have := (ownBlock_lt h.tl.pown hb).1; have := h.lo.1; omega
  · have := (ownBlock_lt h.tl.nown hb).1; have := h.lo.1; omega
end Go.Proofs.YtpjijbophjdgaaaGreat
