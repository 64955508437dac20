/- Two lists that grow in place: for 't.Parents, t.Names = append(..), append(..)' in a region that draws its order. Rose trees of the reference's nodes, as they lie in memory; a node whose list of children grows. The contract of layer 31's reference's least. Rose trees appended to a tree that is numbered depth first. The contract of layer 31's reference's with and number. The contract of layer 31's reference's number. The contract of layer 31's reference's children. The contract of layer 31's reference's grow: the rose tree of a node. An append onto a slice without room, inside a region that draws its order; a node whose list of children is laid anew. Slices of a list of children. The contract of layer 31's reference's ordered. Names, as layer 1's and layer 31's references have them: Check, IsWord, IsName, named. The contract of layer 31's reference's Check. The contract of layer 31's reference's Canonical. -/
import Derived.Test.YtcbmbhghmfehpaaGreatQ7
import Derived.Test.YtcbmbhghmfehpaaGreatQ13
import Derived.Test.YtcbmbhghmfehpaaGreatQ12
import Derived.Deep.CutRange
import Derived.Test.YtcbmbhghmfehpaaGreatQ3
import Derived.Test.YtcbmbhghmfehpaaGreatQ1
import Derived.ArgAppend
namespace Go.Proofs.YtcbmbhghmfehpaaGreat
open Go.RowKit Go.Deep
theorem Tryz.infoStr2 : (Tryz.prog.info? 9).map (fun i => (i.zero, i.size, i.bytes)) = some (some (.string ⟨#[]⟩), 1, 16) := by kernel_rfl
/-- Beside block tb and the two lists' own blocks all lies as it lay. -/
structure GK (tb : Nat) (w W : World) (P N P' N' : Value) : Prop where
  os : W.os = w.os
  tape : W.tape = w.tape
  output : W.output = w.output
  size : w.heap.size ≤ W.heap.size
  block : ∀ b, b < w.heap.size → b ≠ tb → some b ≠ P.ownBlock → some b ≠ N.ownBlock → W.heap[b]? = w.heap[b]?
  newP : ∀ b, P'.ownBlock = some b → P.ownBlock = some b ∨ w.heap.size ≤ b
  newN : ∀ b, N'.ownBlock = some b → N.ownBlock = some b ∨ w.heap.size ≤ b
theorem GK.refl (tb : Nat) (w : World) (P N : Value) : GK tb w w P N P N := ⟨rfl, rfl, rfl, Nat.le_refl _, fun _ _ _ _ _ => rfl, fun _ h => .inl h, fun _ h => .inl h⟩
theorem GK.trans {tb : Nat} {w W X : World} {P N P' N' P2 N2 : Value} (h : GK tb w W P N P' N') (k : GK tb W X P' N' P2 N2) : GK tb w X P N P2 N2 :=
  ⟨k.os.trans h.os, k.tape.trans h.tape, k.output.trans h.output, Nat.le_trans h.size k.size, fun b hb h1 h2 h3 => by
    rw [← h.block b hb h1 h2 h3]
    refine k.block b (Nat.lt_of_lt_of_le hb h.size) h1 (fun e => ?_) (fun e => ?_)
    · rcases h.newP b e.symm with h4 | h4
      · exact h2 h4.symm
      · omega
    · rcases h.newN b e.symm with h4 | h4
      · exact h3 h4.symm
      · omega,
    fun b hb => by
      rcases k.newP b hb with h4 | h4
      · exact h.newP b h4
      · exact .inr (Nat.le_trans h.size h4),
    fun b hb => by
      rcases k.newN b hb with h4 | h4
      · exact h.newN b h4
      · exact .inr (Nat.le_trans h.size h4)⟩
theorem GK.up {tb : Nat} {w W X : World} {P N P' N' : Value} (h : GK tb w W P N P' N') (k : Up W X) : GK tb w X P N P' N' :=
  ⟨k.os.trans h.os, k.tape.trans h.tape, k.output.trans h.output, Nat.le_trans h.size k.size, fun b hb h1 h2 h3 => (Below.block k b (Nat.lt_of_lt_of_le hb h.size)).trans (h.block b hb h1 h2 h3), h.newP, h.newN⟩
theorem GK.of_up {tb : Nat} {w W : World} {P N : Value} (k : Up w W) : GK tb w W P N P N := (GK.refl tb w P N).up k
/-- The two lists, owned, apart. -/
structure TL (B0 : Nat) (W : World) (P N : Value) (ps : List Int) (ns : List ByteArray) : Prop where
  pown : Owns B0 3 W P (ps.map (Value.int .i64))
  nown : Owns B0 9 W N (ns.map Value.string)
  apart : ∀ b, P.ownBlock = some b → N.ownBlock ≠ some b
theorem Owns.same2 {base : Nat} {e : TypeId} {w w' : World} {v : Value} {vs : List Value} (h : Owns base e w v vs) (k : ∀ b, v.ownBlock = some b → w'.heap[b]? = w.heap[b]?) : Owns base e w' v vs := by
  refine ⟨h.1, ?_⟩
  rcases h.2 with h0 | ⟨g, cap, cur, rfl, hg, hc, hr⟩
  · exact .inl h0
  · exact .inr ⟨g, cap, cur, rfl, hg, (k g rfl).trans hc, hr⟩
structure RS (tb B0 : Nat) (w W : World) (P N Pv Nv : Value) (ps : List Int) (ns : List ByteArray) : Prop where
  gk : GK tb w W P N Pv Nv
  tl : TL B0 W Pv Nv ps ns
  same : W.heap[tb]? = w.heap[tb]?
  lo : tb < B0 ∧ B0 ≤ w.heap.size
section
variable {tb B0 : Nat} {w W W' : World} {P N Pv Nv : Value} {ps : List Int} {ns : List ByteArray}
theorem RS.start (h : TL B0 w P N ps ns) (hl : tb < B0 ∧ B0 ≤ w.heap.size) : RS tb B0 w w P N P N ps ns := ⟨GK.refl _ _ _ _, h, rfl, hl⟩
theorem TL.up (h : TL B0 W Pv Nv ps ns) (hu : Up W W') : TL B0 W' Pv Nv ps ns :=
  ⟨h.pown.same2 fun b hb => Below.block hu b (ownBlock_lt h.pown hb).2, h.nown.same2 fun b hb => Below.block hu b (ownBlock_lt h.nown hb).2, h.apart⟩
theorem RS.up (h : RS tb B0 w W P N Pv Nv ps ns) (hu : Up W W') : RS tb B0 w W' P N Pv Nv ps ns :=
  ⟨h.gk.up hu, h.tl.up hu, (Below.block hu tb (by have := h.gk.size; have := h.lo; omega)).trans h.same, h.lo⟩
theorem RS.appP (h : RS tb B0 w W P N Pv Nv ps ns) {g cap k : Nat} {u : Int} (ho : Owns B0 3 W' (.slice (some ⟨g, 0, none⟩) k cap) (ps.map (Value.int .i64) ++ [.int .i64 u])) (hg : W.grownBy W' Pv.ownBlock) (hor : Pv.ownBlock = some g ∨ W.heap.size ≤ g) :
    RS tb B0 w W' P N (.slice (some ⟨g, 0, none⟩) k cap) Nv (ps ++ [u]) ns := by
  have hlo := h.lo
  have hsz := h.gk.size
  refine ⟨⟨hg.os.trans h.gk.os, hg.tape.trans h.gk.tape, hg.output.trans h.gk.output, Nat.le_trans hsz hg.size, fun b hb h1 h2 h3 => ?_, fun b hb => ?_, h.gk.newN⟩, ⟨by rw [List.map_append]; exact ho, h.tl.nown.same2 fun b hb => hg.block b (ownBlock_lt h.tl.nown hb).2 (fun e => h.tl.apart b e.symm hb), fun b hb hb2 => ?_⟩, (hg.block tb (by omega) (fun e => by have := (ownBlock_lt h.tl.pown e.symm).1; omega)).trans h.same, hlo⟩
  · rw [← h.gk.block b hb h1 h2 h3]
    refine hg.block b (by omega) fun e => ?_
    rcases h.gk.newP b e.symm with h4 | h4
    · exact h2 h4.symm
    · omega
  · injection hb with hb
    have hb : g = b := hb
    subst hb
    rcases hor with h4 | h4
    · exact h.gk.newP g h4
    · exact .inr (by omega)
  · injection hb with hb
    have hb : g = b := hb
    subst hb
    rcases hor with h1 | h1
    · exact h.tl.apart g h1 hb2
    · have := (ownBlock_lt h.tl.nown hb2).2; omega
theorem RS.appN (h : RS tb B0 w W P N Pv Nv ps ns) {g cap k : Nat} {u : ByteArray} (ho : Owns B0 9 W' (.slice (some ⟨g, 0, none⟩) k cap) (ns.map Value.string ++ [.string u])) (hg : W.grownBy W' Nv.ownBlock) (hor : Nv.ownBlock = some g ∨ W.heap.size ≤ g) :
    RS tb B0 w W' P N Pv (.slice (some ⟨g, 0, none⟩) k cap) ps (ns ++ [u]) := by
  have hlo := h.lo
  have hsz := h.gk.size
  refine ⟨⟨hg.os.trans h.gk.os, hg.tape.trans h.gk.tape, hg.output.trans h.gk.output, Nat.le_trans hsz hg.size, fun b hb h1 h2 h3 => ?_, h.gk.newP, fun b hb => ?_⟩, ⟨h.tl.pown.same2 fun b hb => hg.block b (ownBlock_lt h.tl.pown hb).2 (fun e => h.tl.apart b hb e.symm), by rw [List.map_append]; exact ho, fun b hb hb2 => ?_⟩, (hg.block tb (by omega) (fun e => by have := (ownBlock_lt h.tl.nown e.symm).1; omega)).trans h.same, hlo⟩
  · rw [← h.gk.block b hb h1 h2 h3]
    refine hg.block b (by omega) fun e => ?_
    rcases h.gk.newN b e.symm with h4 | h4
    · exact h3 h4.symm
    · omega
  · injection hb with hb
    have hb : g = b := hb
    subst hb
    rcases hor with h4 | h4
    · exact h.gk.newN g h4
    · exact .inr (by omega)
  · injection hb2 with hb2
    have hb2 : g = b := hb2
    subst hb2
    rcases hor with h1 | h1
    · exact h.tl.apart g hb h1
    · have := (ownBlock_lt h.tl.pown hb).2; omega
end
/-- The tree under way, in block tb. -/
structure GS (tb B0 : Nat) (W : World) (P N : Value) (t : Tre) : Prop where
  box : W.heap[tb]? = some (Obj.cells #[P, N] 45 (0, 0))
  tl : TL B0 W P N t.ps t.ns
  lo : tb < B0 ∧ B0 ≤ W.heap.size
theorem GS.cells {tb B0 : Nat} {W : World} {P N : Value} {t : Tre} (h : GS tb B0 W P N t) : W.cell? ⟨tb, 0, none⟩ = some P ∧ W.cell? ⟨tb, 1, none⟩ = some N ∧ W.frozen? ⟨tb, 0, none⟩ = false ∧ W.frozen? ⟨tb, 1, none⟩ = false := by
  refine ⟨?_, ?_, ?_, ?_⟩ <;> simp [World.cell?, World.frozen?, h.box]
theorem GS.up {tb B0 : Nat} {W W' : World} {P N : Value} {t : Tre} (h : GS tb B0 W P N t) (hu : Up W W') : GS tb B0 W' P N t :=
  ⟨(Below.block hu tb (by have := h.lo; omega)).trans h.box, h.tl.up hu, ⟨h.lo.1, Nat.le_trans h.lo.2 hu.size⟩⟩
def Tre.push (t : Tre) (p : Int) (s : ByteArray) : Tre := ⟨t.ps ++ [p], t.ns ++ [s]⟩
theorem RS.cells {tb B0 : Nat} {w W : World} {P N Pv Nv P0 N0 : Value} {ps : List Int} {ns : List ByteArray} (h : RS tb B0 w W P N Pv Nv ps ns) (hb : w.heap[tb]? = some (Obj.cells #[P0, N0] 45 (0, 0))) :
    W.cell? ⟨tb, 0, none⟩ = some P0 ∧ W.cell? ⟨tb, 1, none⟩ = some N0 := by
  have h1 := h.same.trans hb
  exact ⟨by simp [World.cell?, h1], by simp [World.cell?, h1]⟩
theorem RS.frozen {tb B0 : Nat} {w W : World} {P N Pv Nv P0 N0 : Value} {ps : List Int} {ns : List ByteArray} (h : RS tb B0 w W P N Pv Nv ps ns) (hb : w.heap[tb]? = some (Obj.cells #[P0, N0] 45 (0, 0))) (o : Nat) :
    W.frozen? ⟨tb, o, none⟩ = false := by
  have h1 := h.same.trans hb
  simp [World.frozen?, h1]
/-- Both lists are stored. -/
theorem RS.store {tb B0 : Nat} {w W : World} {P N Pv Nv : Value} {t : Tre} {z : Int} {nm : ByteArray} (h0 : GS tb B0 w P N t) (h : RS tb B0 w W P N Pv Nv (t.ps ++ [z]) (t.ns ++ [nm])) :
    GS tb B0 ((W.setCell ⟨tb, 0, none⟩ Pv).setCell ⟨tb, 1, none⟩ Nv) Pv Nv (t.push z nm) ∧ GK tb w ((W.setCell ⟨tb, 0, none⟩ Pv).setCell ⟨tb, 1, none⟩ Nv) P N Pv Nv := by
  have h1 := h.same.trans h0.box
  have hset : ∀ b, b ≠ tb → ((W.setCell ⟨tb, 0, none⟩ Pv).setCell ⟨tb, 1, none⟩ Nv).heap[b]? = W.heap[b]? := fun b hb => by rw [blk_setCell_other _ _ _ _ hb, blk_setCell_other _ _ _ _ hb]
  have hsz : ((W.setCell ⟨tb, 0, none⟩ Pv).setCell ⟨tb, 1, none⟩ Nv).heap.size = W.heap.size := by simp [World.size_setCell]
  refine ⟨⟨by simp [World.setCell, Array.getElem?_modify, h1], ⟨h.tl.pown.same2 fun b hb => hset b ?_, h.tl.nown.same2 fun b hb => hset b ?_, h.tl.apart⟩, h.lo.1, by rw [hsz]; exact Nat.le_trans h.lo.2 h.gk.size⟩, h.gk.os, h.gk.tape, h.gk.output, by rw [hsz]; exact h.gk.size, fun b hb h2 h3 h4 => (hset b h2).trans (h.gk.block b hb h2 h3 h4), h.gk.newP, h.gk.newN⟩
  · have := (ownBlock_lt h.tl.pown hb).1; have := h.lo.1; omega
  · have := (ownBlock_lt h.tl.nown hb).1; have := h.lo.1; omega
end Go.Proofs.YtcbmbhghmfehpaaGreat
namespace Go.Proofs.YtcbmbhghmfehpaaGreat
open Go.RowKit Go.Deep
def vN (vs : List Value) (k : Nat) : Value := vs.getD k undef
mutual
/-- v points at the rose tree; its blocks lie in S. -/
def RAt (S : Nat → Prop) (w : World) : RT → Value → Prop
  | .node nm ks, v => ∃ b kv vs, v = .pointer (some ⟨b, 0, none⟩) ∧ S b ∧ w.heap[b]? = some (.cells #[.string nm, kv] 235 (0, 0)) ∧ SlAt S w kv ks.length (vN vs) ∧ RsAt S w ks vs
def RsAt (S : Nat → Prop) (w : World) : List RT → List Value → Prop
  | [], vs => vs = []
  | r :: rs, vs => ∃ u us, vs = u :: us ∧ RAt S w r u ∧ RsAt S w rs us
end
mutual
theorem RAt.keep {S : Nat → Prop} {w w' : World} (k : Kept S w w') : ∀ (r : RT) {v : Value}, RAt S w r v → RAt S w' r v
  | .node nm ks, v, h => by
    unfold RAt at h ⊢
    obtain ⟨b, kv, vs, rfl, hS, hb, hk, hs⟩ := h
    exact ⟨b, kv, vs, rfl, hS, (k b hS (Array.getElem?_eq_some_iff.1 hb).1).trans hb, hk.keep k, RsAt.keep k ks hs⟩
theorem RsAt.keep {S : Nat → Prop} {w w' : World} (k : Kept S w w') : ∀ (rs : List RT) {vs : List Value}, RsAt S w rs vs → RsAt S w' rs vs
  | [], _, h => by unfold RsAt at h ⊢; exact h
  | r :: rs, vs, h => by
    unfold RsAt at h ⊢
    obtain ⟨u, us, rfl, h1, h2⟩ := h
    exact ⟨u, us, rfl, RAt.keep k r h1, RsAt.keep k rs h2⟩
end
mutual
theorem RAt.sub {S T : Nat → Prop} {w : World} (k : ∀ b, S b → b < w.heap.size → T b) : ∀ (r : RT) {v : Value}, RAt S w r v → RAt T w r v
  | .node nm ks, v, h => by
    unfold RAt at h ⊢
    obtain ⟨b, kv, vs, rfl, hS, hb, hk, hs⟩ := h
    exact ⟨b, kv, vs, rfl, k b hS (Array.getElem?_eq_some_iff.1 hb).1, hb, hk.sub k, RsAt.sub k ks hs⟩
theorem RsAt.sub {S T : Nat → Prop} {w : World} (k : ∀ b, S b → b < w.heap.size → T b) : ∀ (rs : List RT) {vs : List Value}, RsAt S w rs vs → RsAt T w rs vs
  | [], _, h => by unfold RsAt at h ⊢; exact h
  | r :: rs, vs, h => by
    unfold RsAt at h ⊢
    obtain ⟨u, us, rfl, h1, h2⟩ := h
    exact ⟨u, us, rfl, RAt.sub k r h1, RsAt.sub k rs h2⟩
end
theorem RsAt.len {S : Nat → Prop} {w : World} : ∀ (rs : List RT) {vs : List Value}, RsAt S w rs vs → vs.length = rs.length
  | [], _, h => by unfold RsAt at h; subst h; rfl
  | r :: rs, vs, h => by
    unfold RsAt at h
    obtain ⟨u, us, rfl, _, h2⟩ := h
    rw [List.length_cons, List.length_cons, RsAt.len rs h2]
def gr (rs : List RT) (k : Nat) : RT := rs.getD k (.node ByteArray.empty [])
theorem RsAt.get {S : Nat → Prop} {w : World} : ∀ (rs : List RT) {vs : List Value}, RsAt S w rs vs → ∀ k, k < rs.length → RAt S w (gr rs k) (vN vs k)
  | [], _, _, k, hk => absurd hk (Nat.not_lt_zero _)
  | r :: rs, vs, h, k, hk => by
    unfold RsAt at h
    obtain ⟨u, us, rfl, h1, h2⟩ := h
    cases k with
    | zero => exact h1
    | succ k => exact RsAt.get rs h2 k (by simpa using hk)
theorem RsAt.app {S : Nat → Prop} {w : World} {r : RT} {u : Value} (hr : RAt S w r u) : ∀ (rs : List RT) {vs : List Value}, RsAt S w rs vs → RsAt S w (rs ++ [r]) (vs ++ [u])
  | [], vs, h => by
    unfold RsAt at h; subst h
    show RsAt S w [r] [u]
    unfold RsAt
    exact ⟨u, [], rfl, hr, by unfold RsAt; rfl⟩
  | q :: rs, vs, h => by
    unfold RsAt at h
    obtain ⟨x, us, rfl, h1, h2⟩ := h
    show RsAt S w (q :: (rs ++ [r])) (x :: (us ++ [u]))
    unfold RsAt
    exact ⟨x, us ++ [u], rfl, h1, RsAt.app hr rs h2⟩
/-- The node, opened: its cells. -/
theorem RAt.open {S : Nat → Prop} {w : World} {r : RT} {v : Value} (h : RAt S w r v) : ∃ b kp kc vs, v = .pointer (some ⟨b, 0, none⟩) ∧ S b ∧ w.cell? ⟨b, 0, none⟩ = some (.string r.nm) ∧ w.cell? ⟨b, 1, none⟩ = some (.slice kp r.kids.length kc) ∧ SlAt S w (.slice kp r.kids.length kc) r.kids.length (vN vs) ∧ RsAt S w r.kids vs := by
  cases r with
  | node nm ks =>
    unfold RAt at h
    obtain ⟨b, kv, vs, rfl, hS, hb, hk, hs⟩ := h
    obtain ⟨kp, kc, rfl, _, _⟩ := SlAt.open hk
    exact ⟨b, kp, kc, vs, rfl, hS, by simp [World.cell?, hb, RT.nm], by simp [World.cell?, hb, RT.kids], hk, hs⟩
/-- A node under way: block B, its children rs so far; all lies at base or beyond. -/
structure Wip (base B : Nat) (w : World) (nm : ByteArray) (kv : Value) (rs : List RT) : Prop where
  node : w.heap[B]? = some (.cells #[.string nm, kv] 235 (0, 0))
  lo : base ≤ B
  kids : ∃ vs, Owns (B + 1) 199 w kv vs ∧ RsAt (fun b => base ≤ b ∧ b ≠ B ∧ kv.ownBlock ≠ some b) w rs vs
theorem Wip.lt {base B : Nat} {w : World} {nm : ByteArray} {kv : Value} {rs : List RT} (h : Wip base B w nm kv rs) : B < w.heap.size := (Array.getElem?_eq_some_iff.1 h.node).1
theorem Wip.cells {base B : Nat} {w : World} {nm : ByteArray} {kv : Value} {rs : List RT} (h : Wip base B w nm kv rs) : w.cell? ⟨B, 0, none⟩ = some (.string nm) ∧ w.cell? ⟨B, 1, none⟩ = some kv ∧ w.frozen? ⟨B, 0, none⟩ = false ∧ w.frozen? ⟨B, 1, none⟩ = false := by
  refine ⟨?_, ?_, ?_, ?_⟩ <;> simp [World.cell?, World.frozen?, h.node]
theorem Wip.start (w : World) {base : Nat} (hb : base ≤ w.heap.size) (nm : ByteArray) : Wip base w.heap.size (w.alloc (.cells #[.string nm, .slice none 0 0] 235)) nm (.slice none 0 0) [] :=
  ⟨World.alloc_heap_new _ _, hb, [], Owns.nil _ _ _, by unfold RsAt; rfl⟩
theorem Wip.up {base B : Nat} {w w' : World} {nm : ByteArray} {kv : Value} {rs : List RT} (h : Wip base B w nm kv rs) (hu : Up w w') : Wip base B w' nm kv rs := by
  obtain ⟨vs, ho, hr⟩ := h.kids
  exact ⟨(Below.block hu B h.lt).trans h.node, h.lo, vs, ho.kept fun b _ hb => Below.block hu b hb, RsAt.keep (hu.kept _) rs hr⟩
/-- The node is done. -/
theorem Wip.done {base B : Nat} {w : World} {nm : ByteArray} {kv : Value} {rs : List RT} (h : Wip base B w nm kv rs) : RAt (fun b => base ≤ b) w (.node nm rs) (.pointer (some ⟨B, 0, none⟩)) := by
  obtain ⟨vs, ho, hr⟩ := h.kids
  have hlen := RsAt.len rs hr
  unfold RAt
  have h1 := ho.slAt
  rw [hlen] at h1
  exact ⟨B, kv, vs, rfl, h.lo, h.node, h1.sub fun b hb _ => by have := h.lo; omega, RsAt.sub (fun b hb _ => hb.1) rs hr⟩
/-- A child is appended: w0 the world ahead of the child, w the world behind it, W behind append, then the store. -/
theorem Wip.push {base B : Nat} {w W : World} {nm : ByteArray} {kv kv' : Value} {rs : List RT} {r : RT} {u : Value} {lim : Nat} (h : Wip base B w nm kv rs) (hr : RAt (fun b => lim ≤ b) w r u) (hl1 : base ≤ lim) (hl2 : B < lim) (hl3 : ∀ b, kv.ownBlock = some b → b < lim)
    {vs : List Value} (hv : RsAt (fun b => base ≤ b ∧ b ≠ B ∧ kv.ownBlock ≠ some b) w rs vs) (ho : Owns (B + 1) 199 W kv' (vs ++ [u])) (hg : w.grownBy W kv.ownBlock) (hor : ∀ b, kv'.ownBlock = some b → kv.ownBlock = some b ∨ w.heap.size ≤ b) :
    Wip base B (W.setCell ⟨B, 1, none⟩ kv') nm kv' (rs ++ [r]) := by
  have hBl := h.lt
  have hBk : kv.ownBlock ≠ some B := fun e => by
    obtain ⟨vs0, ho0, _⟩ := h.kids
    have := (ownBlock_lt ho0 e).1; omega
  have hBk' : kv'.ownBlock ≠ some B := fun e => by
    rcases hor B e with h1 | h1
    · exact hBk h1
    · omega
  have hset : ∀ b, b ≠ B → (W.setCell ⟨B, 1, none⟩ kv').heap[b]? = W.heap[b]? := fun b hb => blk_setCell_other _ _ _ _ hb
  have hB : W.heap[B]? = w.heap[B]? := hg.block B hBl (fun e => hBk e.symm)
  have hkeep : ∀ b, b ≠ B → kv.ownBlock ≠ some b → b < w.heap.size → (W.setCell ⟨B, 1, none⟩ kv').heap[b]? = w.heap[b]? := fun b h1 h2 h3 => (hset b h1).trans (hg.block b h3 fun e => h2 e.symm)
  refine ⟨?_, h.lo, vs ++ [u], ho.same2 fun b hb => hset b (fun e => hBk' (by rw [hb, e])), ?_⟩
  · have hn := hB.trans h.node
    simp [World.setCell, Array.getElem?_modify, hn]
  · have k1 : Kept (fun b => base ≤ b ∧ b ≠ B ∧ kv.ownBlock ≠ some b) w (W.setCell ⟨B, 1, none⟩ kv') := fun b hb hl => hkeep b hb.2.1 hb.2.2 hl
    have k2 : Kept (fun b => lim ≤ b) w (W.setCell ⟨B, 1, none⟩ kv') := fun b hb hl => hkeep b (by have : lim ≤ b := hb; omega) (fun e => by have := hl3 b e; have : lim ≤ b := hb; omega) hl
    have hsz : (W.setCell ⟨B, 1, none⟩ kv').heap.size = W.heap.size := by simp [World.size_setCell]
    have hold : ∀ b, b < w.heap.size → kv.ownBlock ≠ some b → kv'.ownBlock ≠ some b := fun b h1 h2 e => by
      rcases hor b e with h3 | h3
      · exact h2 h3
      · omega
    have h1 : RsAt (fun b => base ≤ b ∧ b ≠ B ∧ kv'.ownBlock ≠ some b) w rs vs := RsAt.sub (fun b hb hl => ⟨hb.1, hb.2.1, hold b hl hb.2.2⟩) rs hv
    have h2 : RAt (fun b => base ≤ b ∧ b ≠ B ∧ kv'.ownBlock ≠ some b) w r u := RAt.sub (fun b hb hl => ⟨by have : lim ≤ b := hb; omega, by have : lim ≤ b := hb; omega, hold b hl fun e => by have := hl3 b e; have : lim ≤ b := hb; omega⟩) r hr
    have k3 : Kept (fun b => base ≤ b ∧ b ≠ B ∧ kv'.ownBlock ≠ some b ∧ kv.ownBlock ≠ some b) w (W.setCell ⟨B, 1, none⟩ kv') := fun b hb hl => hkeep b hb.2.1 hb.2.2.2 hl
    have h1' : RsAt (fun b => base ≤ b ∧ b ≠ B ∧ kv'.ownBlock ≠ some b ∧ kv.ownBlock ≠ some b) w rs vs := RsAt.sub (fun b hb hl => ⟨hb.1, hb.2.1, hold b hl hb.2.2, hb.2.2⟩) rs hv
    have h2' : RAt (fun b => base ≤ b ∧ b ≠ B ∧ kv'.ownBlock ≠ some b ∧ kv.ownBlock ≠ some b) w r u := RAt.sub (fun b hb hl => ⟨by have : lim ≤ b := hb; omega, by have : lim ≤ b := hb; omega, hold b hl fun e => by have := hl3 b e; have : lim ≤ b := hb; omega, fun e => by have := hl3 b e; have : lim ≤ b := hb; omega⟩) r hr
    exact RsAt.sub (fun b hb _ => ⟨hb.1, hb.2.1, hb.2.2.1⟩) _ (RsAt.app (RAt.keep k3 r h2') rs (RsAt.keep k3 rs h1'))
end Go.Proofs.YtcbmbhghmfehpaaGreat
namespace Go.Proofs.YtcbmbhghmfehpaaGreat
open Go.RowKit Go.Deep
end Go.Proofs.YtcbmbhghmfehpaaGreat
namespace Go.Proofs.YtcbmbhghmfehpaaGreat
def Tre.app (t : Tre) (r : RT) (p : Int) : Tre := ⟨t.ps ++ psR r t.ps.length p, t.ns ++ nsR r⟩
end Go.Proofs.YtcbmbhghmfehpaaGreat
namespace Go.Proofs.YtcbmbhghmfehpaaGreat
open Go.RowKit Go.Deep
/-- As RS of E11, the box anywhere but in the lists' own blocks. -/
structure RW (tb B0 : Nat) (w W : World) (P N Pv Nv : Value) (ps : List Int) (ns : List ByteArray) : Prop where
  gk : GK tb w W P N Pv Nv
  tl : TL B0 W Pv Nv ps ns
  same : W.heap[tb]? = w.heap[tb]?
  lo : (tb < w.heap.size ∧ P.ownBlock ≠ some tb ∧ N.ownBlock ≠ some tb) ∧ B0 ≤ w.heap.size
section
variable {tb B0 : Nat} {w W W' : World} {P N Pv Nv : Value} {ps : List Int} {ns : List ByteArray}
theorem RW.start (h : TL B0 w P N ps ns) (hl : (tb < w.heap.size ∧ P.ownBlock ≠ some tb ∧ N.ownBlock ≠ some tb) ∧ B0 ≤ w.heap.size) : RW tb B0 w w P N P N ps ns := ⟨GK.refl _ _ _ _, h, rfl, hl⟩
theorem RW.notP (h : RW tb B0 w W P N Pv Nv ps ns) : Pv.ownBlock ≠ some tb := fun e => by
  rcases h.gk.newP tb e with h1 | h1
  · exact h.lo.1.2.1 h1
  · have := h.lo.1.1; omega
theorem RW.notN (h : RW tb B0 w W P N Pv Nv ps ns) : Nv.ownBlock ≠ some tb := fun e => by
  rcases h.gk.newN tb e with h1 | h1
  · exact h.lo.1.2.2 h1
  · have := h.lo.1.1; omega
theorem RW.up (h : RW tb B0 w W P N Pv Nv ps ns) (hu : Up W W') : RW tb B0 w W' P N Pv Nv ps ns :=
  ⟨h.gk.up hu, h.tl.up hu, (Below.block hu tb (by have := h.gk.size; have := h.lo.1.1; omega)).trans h.same, h.lo⟩
theorem RW.appP (h : RW tb B0 w W P N Pv Nv ps ns) {g cap k : Nat} {u : Int} (ho : Owns B0 3 W' (.slice (some ⟨g, 0, none⟩) k cap) (ps.map (Value.int .i64) ++ [.int .i64 u])) (hg : W.grownBy W' Pv.ownBlock) (hor : Pv.ownBlock = some g ∨ W.heap.size ≤ g) :
    RW tb B0 w W' P N (.slice (some ⟨g, 0, none⟩) k cap) Nv (ps ++ [u]) ns := by
  have hlo := h.lo
  have hsz := h.gk.size
  have hnp := h.notP
  refine ⟨⟨hg.os.trans h.gk.os, hg.tape.trans h.gk.tape, hg.output.trans h.gk.output, Nat.le_trans hsz hg.size, fun b hb h1 h2 h3 => ?_, fun b hb => ?_, h.gk.newN⟩, ⟨by rw [List.map_append]; exact ho, h.tl.nown.same2 fun b hb => hg.block b (ownBlock_lt h.tl.nown hb).2 (fun e => h.tl.apart b e.symm hb), fun b hb hb2 => ?_⟩, (hg.block tb (by have := hlo.1.1; omega) (fun e => hnp e.symm)).trans h.same, hlo⟩
  · rw [← h.gk.block b hb h1 h2 h3]
    refine hg.block b (by omega) fun e => ?_
    rcases h.gk.newP b e.symm with h4 | h4
    · exact h2 h4.symm
    · omega
  · injection hb with hb
    have hb : g = b := hb
    subst hb
    rcases hor with h4 | h4
    · exact h.gk.newP g h4
    · exact .inr (by omega)
  · injection hb with hb
    have hb : g = b := hb
    subst hb
    rcases hor with h1 | h1
    · exact h.tl.apart g h1 hb2
    · have := (ownBlock_lt h.tl.nown hb2).2; omega
theorem RW.appN (h : RW tb B0 w W P N Pv Nv ps ns) {g cap k : Nat} {u : ByteArray} (ho : Owns B0 9 W' (.slice (some ⟨g, 0, none⟩) k cap) (ns.map Value.string ++ [.string u])) (hg : W.grownBy W' Nv.ownBlock) (hor : Nv.ownBlock = some g ∨ W.heap.size ≤ g) :
    RW tb B0 w W' P N Pv (.slice (some ⟨g, 0, none⟩) k cap) ps (ns ++ [u]) := by
  have hlo := h.lo
  have hsz := h.gk.size
  have hnn := h.notN
  refine ⟨⟨hg.os.trans h.gk.os, hg.tape.trans h.gk.tape, hg.output.trans h.gk.output, Nat.le_trans hsz hg.size, fun b hb h1 h2 h3 => ?_, h.gk.newP, fun b hb => ?_⟩, ⟨h.tl.pown.same2 fun b hb => hg.block b (ownBlock_lt h.tl.pown hb).2 (fun e => h.tl.apart b hb e.symm), by rw [List.map_append]; exact ho, fun b hb hb2 => ?_⟩, (hg.block tb (by have := hlo.1.1; omega) (fun e => hnn e.symm)).trans h.same, hlo⟩
  · rw [← h.gk.block b hb h1 h2 h3]
    refine hg.block b (by omega) fun e => ?_
    rcases h.gk.newN b e.symm with h4 | h4
    · exact h3 h4.symm
    · omega
  · injection hb with hb
    have hb : g = b := hb
    subst hb
    rcases hor with h4 | h4
    · exact h.gk.newN g h4
    · exact .inr (by omega)
  · injection hb2 with hb2
    have hb2 : g = b := hb2
    subst hb2
    rcases hor with h1 | h1
    · exact h.tl.apart g hb h1
    · have := (ownBlock_lt h.tl.pown hb).2; omega
theorem RW.cells {P0 N0 : Value} (h : RW tb B0 w W P N Pv Nv ps ns) (hb : w.heap[tb]? = some (Obj.cells #[P0, N0] 45 (0, 0))) :
    W.cell? ⟨tb, 0, none⟩ = some P0 ∧ W.cell? ⟨tb, 1, none⟩ = some N0 := by
  have h1 := h.same.trans hb
  exact ⟨by simp [World.cell?, h1], by simp [World.cell?, h1]⟩
theorem RW.frozen {P0 N0 : Value} (h : RW tb B0 w W P N Pv Nv ps ns) (hb : w.heap[tb]? = some (Obj.cells #[P0, N0] 45 (0, 0))) (o : Nat) : W.frozen? ⟨tb, o, none⟩ = false := by
  have h1 := h.same.trans hb
  simp [World.frozen?, h1]
end
/-- The tree under way, in block tb. -/
structure GW (tb B0 : Nat) (W : World) (P N : Value) (t : Tre) : Prop where
  box : W.heap[tb]? = some (Obj.cells #[P, N] 45 (0, 0))
  tl : TL B0 W P N t.ps t.ns
  lo : (P.ownBlock ≠ some tb ∧ N.ownBlock ≠ some tb) ∧ B0 ≤ W.heap.size
theorem GW.lt {tb B0 : Nat} {W : World} {P N : Value} {t : Tre} (h : GW tb B0 W P N t) : tb < W.heap.size := (Array.getElem?_eq_some_iff.1 h.box).1
theorem GW.cells {tb B0 : Nat} {W : World} {P N : Value} {t : Tre} (h : GW tb B0 W P N t) : W.cell? ⟨tb, 0, none⟩ = some P ∧ W.cell? ⟨tb, 1, none⟩ = some N ∧ W.frozen? ⟨tb, 0, none⟩ = false ∧ W.frozen? ⟨tb, 1, none⟩ = false := by
  refine ⟨?_, ?_, ?_, ?_⟩ <;> simp [World.cell?, World.frozen?, h.box]
theorem GW.up {tb B0 : Nat} {W W' : World} {P N : Value} {t : Tre} (h : GW tb B0 W P N t) (hu : Up W W') : GW tb B0 W' P N t :=
  ⟨(Below.block hu tb h.lt).trans h.box, h.tl.up hu, h.lo.1, Nat.le_trans h.lo.2 hu.size⟩
/-- Two lists are stored into the box. -/
theorem GW.put {tb B0 : Nat} {W X : World} {P N P' N' : Value} {t u : Tre} (h : GW tb B0 W P N t) (hk : GK tb W X P N P' N') (hs : X.heap[tb]? = W.heap[tb]?) (ht : TL B0 X P' N' u.ps u.ns) :
    GW tb B0 ((X.setCell ⟨tb, 0, none⟩ P').setCell ⟨tb, 1, none⟩ N') P' N' u ∧ GK tb W ((X.setCell ⟨tb, 0, none⟩ P').setCell ⟨tb, 1, none⟩ N') P N P' N' := by
  have h1 := hs.trans h.box
  have hl := h.lt
  have hp : P'.ownBlock ≠ some tb := fun e => by
    rcases hk.newP tb e with h2 | h2
    · exact h.lo.1.1 h2
    · omega
  have hn : N'.ownBlock ≠ some tb := fun e => by
    rcases hk.newN tb e with h2 | h2
    · exact h.lo.1.2 h2
    · omega
  have hset : ∀ b, b ≠ tb → ((X.setCell ⟨tb, 0, none⟩ P').setCell ⟨tb, 1, none⟩ N').heap[b]? = X.heap[b]? := fun b hb => by rw [blk_setCell_other _ _ _ _ hb, blk_setCell_other _ _ _ _ hb]
  have hsz : ((X.setCell ⟨tb, 0, none⟩ P').setCell ⟨tb, 1, none⟩ N').heap.size = X.heap.size := by simp [World.size_setCell]
  refine ⟨⟨by simp [World.setCell, Array.getElem?_modify, h1], ⟨ht.pown.same2 fun b hb => hset b (fun e => hp (by rw [hb, e])), ht.nown.same2 fun b hb => hset b (fun e => hn (by rw [hb, e])), ht.apart⟩, ⟨hp, hn⟩, by rw [hsz]; exact Nat.le_trans h.lo.2 hk.size⟩, hk.os, hk.tape, hk.output, by rw [hsz]; exact hk.size, fun b hb h2 h3 h4 => (hset b h2).trans (hk.block b hb h2 h3 h4), hk.newP, hk.newN⟩
theorem RW.store {tb B0 : Nat} {w W : World} {P N Pv Nv : Value} {t : Tre} {z : Int} {nm : ByteArray} (h0 : GW tb B0 w P N t) (h : RW tb B0 w W P N Pv Nv (t.ps ++ [z]) (t.ns ++ [nm])) :
    GW tb B0 ((W.setCell ⟨tb, 0, none⟩ Pv).setCell ⟨tb, 1, none⟩ Nv) Pv Nv (t.push z nm) ∧ GK tb w ((W.setCell ⟨tb, 0, none⟩ Pv).setCell ⟨tb, 1, none⟩ Nv) P N Pv Nv := h0.put h.gk h.same h.tl
end Go.Proofs.YtcbmbhghmfehpaaGreat
namespace Go.Proofs.YtcbmbhghmfehpaaGreat
open Go.RowKit Go.Deep
end Go.Proofs.YtcbmbhghmfehpaaGreat
namespace Go.Proofs.YtcbmbhghmfehpaaGreat
open Go.RowKit Go.Deep
end Go.Proofs.YtcbmbhghmfehpaaGreat
namespace Go.Proofs.YtcbmbhghmfehpaaGreat
open Go.RowKit Go.Deep
/-- A node under way, beside a list of numbers. -/
structure GInv (w1 : World) (base B : Nat) (nm : ByteArray) (kl : List Int) (kp : Option Addr) (kc : Nat) (wr : World) (kv : Value) (rs : List RT) : Prop where
  wip : Wip base B wr nm kv rs
  up : Up w1 wr
  ints : IntsAt (fun b => b ≠ B ∧ kv.ownBlock ≠ some b) wr (.slice kp kl.length kc) kl
  lo : w1.heap.size ≤ B
theorem drew_up (w : World) : Up w w.drew := Up.drewN w 1
theorem GInv.push {w1 : World} {base B : Nat} {nm : ByteArray} {kl : List Int} {kp : Option Addr} {kc : Nat} {wr w2 : World} {kv : Value} {rs : List RT} (h : GInv w1 base B nm kl kp kc wr kv rs) {r : RT} {u : Value} (hu : Up wr w2) (hr : RAt (fun b => wr.heap.size ≤ b) w2 r u) :
    ∃ vs : List Value, vs.length = rs.length ∧ Owns (B + 1) 199 (w2.alloc (.cells #[u] 199)) kv vs ∧ B + 1 ≤ (w2.alloc (.cells #[u] 199)).heap.size ∧
      (∀ W, (w2.alloc (.cells #[u] 199)).grownBy W kv.ownBlock → W.cell? ⟨B, 1, none⟩ = some kv ∧ W.frozen? ⟨B, 1, none⟩ = false ∧ (∀ b o v, b < w1.heap.size → w1.cell? ⟨b, o, none⟩ = some v → W.cell? ⟨b, o, none⟩ = some v) ∧ IntsAt (fun b => b ≠ B ∧ kv.ownBlock ≠ some b) W (.slice kp kl.length kc) kl) ∧
      ∀ g c W, Owns (B + 1) 199 W (.slice (some ⟨g, 0, none⟩) (vs.length + 1) c) (vs ++ [u]) → (w2.alloc (.cells #[u] 199)).grownBy W kv.ownBlock → (kv.ownBlock = some g ∨ g = (w2.alloc (.cells #[u] 199)).heap.size) →
        GInv w1 base B nm kl kp kc (W.setCell ⟨B, 1, none⟩ (.slice (some ⟨g, 0, none⟩) (vs.length + 1) c)) (.slice (some ⟨g, 0, none⟩) (vs.length + 1) c) (rs ++ [r]) := by
  have hal := Up.alloc w2 (.cells #[u] 199)
  have hW := (h.wip.up hu).up hal
  have hBl := h.wip.lt
  have hsz := hu.size
  have hsa : (w2.alloc (.cells #[u] 199)).heap.size = w2.heap.size + 1 := World.size_alloc _ _
  obtain ⟨vs, ho, hv⟩ := hW.kids
  obtain ⟨vs0, ho0, _⟩ := h.wip.kids
  have hkb : ∀ b, kv.ownBlock = some b → b < wr.heap.size ∧ B < b := fun b hb => ⟨(ownBlock_lt ho0 hb).2, by have := (ownBlock_lt ho0 hb).1; omega⟩
  have hi2 : IntsAt (fun b => b ≠ B ∧ kv.ownBlock ≠ some b) (w2.alloc (.cells #[u] 199)) (.slice kp kl.length kc) kl := IntsAt.keep h.ints ((hu.trans hal).kept _)
  have hi3 : ∀ W, (w2.alloc (.cells #[u] 199)).grownBy W kv.ownBlock → IntsAt (fun b => b ≠ B ∧ kv.ownBlock ≠ some b) W (.slice kp kl.length kc) kl := fun W hg =>
    IntsAt.keep hi2 fun b hb hl => hg.block b hl fun e => hb.2 e.symm
  refine ⟨vs, RsAt.len rs hv, ho, by omega, fun W hg => ?_, fun g c W hown hg hor => ?_⟩
  · have hc := hW.cells
    have hBo : some B ≠ kv.ownBlock := fun e => by have := (hkb B e.symm).2; omega
    have hBa : B < (w2.alloc (.cells #[u] 199)).heap.size := by omega
    refine ⟨?_, ?_, fun b o v hb hcb => ?_, hi3 W hg⟩
    · rw [hg.cell_far (a := ⟨B, 1, none⟩) hBa hBo]; exact hc.2.1
    · rw [hg.frozen_far (a := ⟨B, 1, none⟩) hBa hBo]; exact hc.2.2.2
    · have h1 := ((h.up.trans hu).trans hal)
      have hlo := h.lo
      rw [hg.cell_far _ (Nat.lt_of_lt_of_le hb h1.size) (fun e => by have := (hkb b e.symm).2; omega)]
      exact h1.cell hcb
  · have hor2 : ∀ b, (Value.slice (some ⟨g, 0, none⟩) (vs.length + 1) c).ownBlock = some b → kv.ownBlock = some b ∨ (w2.alloc (.cells #[u] 199)).heap.size ≤ b := fun b hb => by
      injection hb with hb
      have hb : g = b := hb
      subst hb
      rcases hor with h1 | h1
      · exact .inl h1
      · exact .inr (by omega)
    have hlo := h.lo
    have hw := h.wip.lo
    refine ⟨hW.push (RAt.keep (hal.kept _) r hr) (by omega) hBl (fun b hb => (hkb b hb).1) hv hown hg hor2, ?_, ?_, h.lo⟩
    · have h1 := (h.up.trans hu).trans hal
      refine ⟨hg.os.trans h1.os, hg.tape.trans h1.tape, hg.output.trans h1.output, ?_, fun b hb => ?_⟩
      · have := h1.size; have := hg.size; simp only [World.size_setCell]; omega
      · rw [blk_setCell_other _ _ _ _ (by omega : b ≠ B), hg.block b (Nat.lt_of_lt_of_le hb h1.size) (fun e => by have := (hkb b e.symm).2; omega)]
        exact h1.block b hb
    · have h2 := hi3 W hg
      have h3 : IntsAt (fun b => b ≠ B ∧ kv.ownBlock ≠ some b ∧ (Value.slice (some ⟨g, 0, none⟩) (vs.length + 1) c).ownBlock ≠ some b) (w2.alloc (.cells #[u] 199)) (.slice kp kl.length kc) kl := IntsAt.sub hi2 fun b hb hl => ⟨hb.1, hb.2, fun e => by
        rcases hor2 b e with h5 | h5
        · exact hb.2 h5
        · omega⟩
      have h4 := IntsAt.keep (w' := W.setCell ⟨B, 1, none⟩ (.slice (some ⟨g, 0, none⟩) (vs.length + 1) c)) h3 fun b hb hl => (blk_setCell_other _ _ _ _ hb.1).trans (hg.block b hl fun e => hb.2.1 e.symm)
      exact IntsAt.sub h4 fun b hb _ => ⟨hb.1, hb.2.2⟩
theorem ints_at {S : Nat → Prop} {w : World} {b off n cap : Nat} {xs : List Int} (h : IntsAt S w (.slice (some ⟨b, off, none⟩) n cap) xs) {k : Nat} (hk : k < xs.length) : w.cell? ⟨b, off + k, none⟩ = some (.int .i64 (gi xs k)) := by
  obtain ⟨b', o', e, hc⟩ := ints_get h hk
  injection e with e
  injection e with e1 e2
  subst e1; subst e2; exact hc
end Go.Proofs.YtcbmbhghmfehpaaGreat
namespace Go.Proofs.YtcbmbhghmfehpaaGreat
open Go.RowKit Go.Deep
section
variable {P : Program} {ops : Array Oper} {o : Oper} {a : Act} {w : World} {K : Act → World → Prop} {Q : Exit → Act → World → Prop} {E : Prop}
end
theorem RsAt.app2 {S : Nat → Prop} {w : World} : ∀ (a b : List RT) {vs us : List Value}, RsAt S w a vs → RsAt S w b us → RsAt S w (a ++ b) (vs ++ us)
  | [], b, vs, us, h, h2 => by unfold RsAt at h; subst h; exact h2
  | r :: a, b, vs, us, h, h2 => by
    unfold RsAt at h
    obtain ⟨u, q, rfl, h3, h4⟩ := h
    show RsAt S w (r :: (a ++ b)) (u :: (q ++ us))
    unfold RsAt
    exact ⟨u, q ++ us, rfl, h3, RsAt.app2 a b h4 h2⟩
theorem RsAt.takeR {S : Nat → Prop} {w : World} : ∀ (a : List RT) (k : Nat) {vs : List Value}, RsAt S w a vs → RsAt S w (a.take k) (vs.take k)
  | [], k, vs, h => by unfold RsAt at h; subst h; simp [RsAt]
  | r :: a, 0, vs, h => by simp [RsAt]
  | r :: a, k + 1, vs, h => by
    unfold RsAt at h
    obtain ⟨u, q, rfl, h3, h4⟩ := h
    rw [List.take_succ_cons, List.take_succ_cons]
    unfold RsAt
    exact ⟨u, _, rfl, h3, RsAt.takeR a k h4⟩
theorem RsAt.dropR {S : Nat → Prop} {w : World} : ∀ (a : List RT) (k : Nat) {vs : List Value}, RsAt S w a vs → RsAt S w (a.drop k) (vs.drop k)
  | [], k, vs, h => by unfold RsAt at h; subst h; simp [RsAt]
  | r :: a, 0, vs, h => h
  | r :: a, k + 1, vs, h => by
    unfold RsAt at h
    obtain ⟨u, q, rfl, h3, h4⟩ := h
    rw [List.drop_succ_cons, List.drop_succ_cons]
    exact RsAt.dropR a k h4
/-- The list of children is laid anew, with one more in it. -/
theorem Wip.lay {base B X : Nat} {w W : World} {nm : ByteArray} {kv kv' : Value} {acc : List RT} {avs : List Value} {o : RT} {u : Value} (h : Wip base B w nm kv acc) (hra : RsAt (fun b => base ≤ b ∧ b ≠ B ∧ kv.ownBlock ≠ some b) w acc avs) (hu : Up w W) (hX : w.heap.size ≤ X)
    (hkb : ∀ b, kv'.ownBlock = some b → X ≤ b) (hr : RAt (fun b => w.heap.size ≤ b ∧ b < X) W o u) (k : Nat) (ho : Owns (B + 1) 199 W kv' (avs.take k ++ u :: avs.drop k)) :
    Wip base B (W.setCell ⟨B, 1, none⟩ kv') nm kv' (acc.take k ++ o :: acc.drop k) := by
  have hBl := h.lt
  have hset : ∀ b, b ≠ B → (W.setCell ⟨B, 1, none⟩ kv').heap[b]? = W.heap[b]? := fun b hb => blk_setCell_other _ _ _ _ hb
  have hn := (Below.block hu B hBl).trans h.node
  have hlo := h.lo
  refine ⟨by simp [World.setCell, Array.getElem?_modify, hn], h.lo, _, ho.same2 fun b hb => hset b (by have := hkb b hb; omega), ?_⟩
  have k1 : Kept (fun b => base ≤ b ∧ b ≠ B ∧ kv'.ownBlock ≠ some b) w (W.setCell ⟨B, 1, none⟩ kv') := fun b hb hl => (hset b hb.2.1).trans (Below.block hu b hl)
  have a1 : RsAt (fun b => base ≤ b ∧ b ≠ B ∧ kv'.ownBlock ≠ some b) (W.setCell ⟨B, 1, none⟩ kv') acc avs :=
    RsAt.keep k1 acc (RsAt.sub (fun b hb hl => ⟨hb.1, hb.2.1, fun e => by have := hkb b e; omega⟩) acc hra)
  have k2 : Kept (fun b => base ≤ b ∧ b ≠ B ∧ kv'.ownBlock ≠ some b) W (W.setCell ⟨B, 1, none⟩ kv') := fun b hb _ => hset b hb.2.1
  have a2 : RAt (fun b => base ≤ b ∧ b ≠ B ∧ kv'.ownBlock ≠ some b) (W.setCell ⟨B, 1, none⟩ kv') o u :=
    RAt.keep k2 o (RAt.sub (fun b hb _ => ⟨by have := hb.1; omega, by have := hb.1; omega, fun e => by have := hkb b e; have := hb.2; omega⟩) o hr)
  refine RsAt.app2 _ _ (RsAt.takeR acc k a1) ?_
  unfold RsAt
  exact ⟨u, avs.drop k, rfl, a2, RsAt.dropR acc k a1⟩
end Go.Proofs.YtcbmbhghmfehpaaGreat
namespace Go.Proofs.YtcbmbhghmfehpaaGreat
open Go.RowKit Go.Deep
end Go.Proofs.YtcbmbhghmfehpaaGreat
namespace Go.Proofs.YtcbmbhghmfehpaaGreat
open Go.RowKit Go.Deep
end Go.Proofs.YtcbmbhghmfehpaaGreat
namespace Go.Proofs.YtcbmbhghmfehpaaGreat
open Go.RowKit Go.Deep
theorem last_get (s : ByteArray) (h : s.size - 1 < s.size) : s.data.toList.getLast? = some s[s.size - 1] := by
  have hl := size_data s
  rw [List.getLast?_eq_getElem?, hl, List.getElem?_eq_getElem (by rw [hl]; exact h)]; rfl
theorem named_star (s : ByteArray) (h : s.size - 1 < s.size) (h16 : s.size ≤ 16) (h42 : ((s[s.size - 1].toNat : Int) == 42) = true) : namedB s.data.toList = isNameB (s.extract 0 (s.size - 1)).data.toList := by
  have hl := size_data s
  have h2 : s[s.size - 1] = 42 := by
    have h3 : (s[s.size - 1].toNat : Int) = 42 := by simpa using h42
    have h4 : s[s.size - 1].toNat = 42 := by omega
    exact UInt8.toNat_inj.1 h4
  unfold namedB; rw [last_get s h, h2, if_pos rfl, cut_star, hl]; simp [h16]
theorem named_plain (s : ByteArray) (h : s.size - 1 < s.size) (h42 : ((s[s.size - 1].toNat : Int) == 42) = false) : namedB s.data.toList = isNameB s.data.toList := by
  unfold namedB; rw [last_get s h, if_neg]
  intro e; injection e with e; rw [e] at h42; simp at h42
theorem named_one (s : ByteArray) (h : s.size ≤ 1) : namedB s.data.toList = isNameB s.data.toList := by
  have hl := size_data s
  unfold namedB; split
  · rename_i h42
    rw [isNameB_star s.data.toList h42]
    have : s.data.toList.dropLast = [] := by rw [← List.length_eq_zero_iff, List.length_dropLast]; omega
    rw [this]; rfl
  · rfl
end Go.Proofs.YtcbmbhghmfehpaaGreat
namespace Go.Proofs.YtcbmbhghmfehpaaGreat
open Go.RowKit Go.Deep
end Go.Proofs.YtcbmbhghmfehpaaGreat
namespace Go.Proofs.YtcbmbhghmfehpaaGreat
open Go.RowKit Go.Deep
end Go.Proofs.YtcbmbhghmfehpaaGreat
