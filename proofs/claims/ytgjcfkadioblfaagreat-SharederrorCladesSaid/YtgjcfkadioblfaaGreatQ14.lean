/- Groups of sources in memory; what Groups computes, plain. Two lists that grow in place: for 't.Parents, t.Names = append(..), append(..)' in a region that draws its order. Rose trees of the reference's nodes, as they lie in memory; a node whose list of children grows. The contract of layer 31's reference's least. Rose trees appended to a tree that is numbered depth first. -/
import Derived.Test.YtgjcfkadioblfaaGreatQ3
import Derived.Test.YtgjcfkadioblfaaGreatQ13
import Derived.Test.YtgjcfkadioblfaaGreatQ7
namespace Go.Proofs.YtgjcfkadioblfaaGreat
open Go.RowKit Go.Deep
structure Grp where
  un : Int
  st : Int
  src : List Int
def gg (l : List Grp) (k : Nat) : Grp := l.getD k ⟨0, 0, []⟩
/-- v is a slice of groups: three cells each, the third a list of sources. -/
def GrpsAt (S : Nat → Prop) (w : World) (v : Value) (gs : List Grp) : Prop :=
  ∃ p cap, v = .slice p gs.length cap ∧ gs.length ≤ cap ∧ (gs.length = 0 ∨ ∃ b off, p = some ⟨b, off, none⟩ ∧ S b ∧ ∀ k, k < gs.length → ∃ sv, w.cell? ⟨b, off + k * 3, none⟩ = some (.int .i64 (gg gs k).un) ∧ w.cell? ⟨b, off + k * 3 + 1, none⟩ = some (.int .i64 (gg gs k).st) ∧ w.cell? ⟨b, off + k * 3 + 2, none⟩ = some sv ∧ IntsAt S w sv (gg gs k).src)
theorem GrpsAt.keep {S : Nat → Prop} {w w' : World} {v : Value} {gs : List Grp} (h : GrpsAt S w v gs) (k : Kept S w w') : GrpsAt S w' v gs := by
  obtain ⟨p, cap, rfl, hn, h⟩ := h
  refine ⟨p, cap, rfl, hn, ?_⟩
  rcases h with h | ⟨b, off, rfl, hS, h⟩
  · exact .inl h
  · refine .inr ⟨b, off, rfl, hS, fun i hi => ?_⟩
    obtain ⟨sv, h1, h2, h3, h4⟩ := h i hi
    have hlt : b < w.heap.size := World.block_lt_of_cell? w _ h1
    have hc : ∀ o, w'.cell? ⟨b, o, none⟩ = w.cell? ⟨b, o, none⟩ := fun o => World.cell?_of_block (a := ⟨b, o, none⟩) (k b hS hlt)
    exact ⟨sv, (hc _).trans h1, (hc _).trans h2, (hc _).trans h3, h4.keep k⟩
theorem GrpsAt.sub {S T : Nat → Prop} {w : World} {v : Value} {gs : List Grp} (h : GrpsAt S w v gs) (hST : ∀ b, S b → b < w.heap.size → T b) : GrpsAt T w v gs := by
  obtain ⟨p, cap, rfl, hn, h⟩ := h
  refine ⟨p, cap, rfl, hn, ?_⟩
  rcases h with h | ⟨b, off, rfl, hS, h⟩
  · exact .inl h
  · by_cases h0 : gs.length = 0
    · exact .inl h0
    · obtain ⟨_, h1, _⟩ := h 0 (by omega)
      refine .inr ⟨b, off, rfl, hST b hS (World.block_lt_of_cell? w _ h1), fun i hi => ?_⟩
      obtain ⟨sv, h1, h2, h3, h4⟩ := h i hi
      exact ⟨sv, h1, h2, h3, h4.sub hST⟩
/-- The sources, of the first k, that have state s at place u. -/
def srcK (xs : List (List Int)) (u : Nat) (s : Int) (k : Nat) : List Int := ((List.range k).filter fun i => gi (gl xs i) u == s).map fun (i : Nat) => (i : Int)
theorem srcK_succ (xs : List (List Int)) (u : Nat) (s : Int) (k : Nat) : srcK xs u s (k + 1) = srcK xs u s k ++ (if gi (gl xs k) u = s then [(k : Int)] else []) := by
  unfold srcK
  rw [List.range_succ, List.filter_append, List.map_append]
  congr 1
  by_cases h : gi (gl xs k) u = s
  · simp [h]
  · simp [h]
theorem srcK_len (xs : List (List Int)) (u : Nat) (s : Int) (k : Nat) : (srcK xs u s k).length ≤ k := by
  unfold srcK
  rw [List.length_map]
  exact Nat.le_trans (List.length_filter_le _ _) (by simp)
/-- The group of a state at a place, where there is one. -/
def grp1 (xs : List (List Int)) (og : List Int) (u s : Nat) : List Grp := if (s : Int) ≠ gi og u ∧ srcK xs u s xs.length ≠ [] then [⟨u, s, srcK xs u s xs.length⟩] else []
def stK (xs : List (List Int)) (og : List Int) (u s : Nat) : List Grp := (List.range s).flatMap (grp1 xs og u)
def unG (xs : List (List Int)) (og : List Int) (u : Nat) : List Grp := if gi og u < 0 then [] else stK xs og u 16
def unK (xs : List (List Int)) (og : List Int) (k : Nat) : List Grp := (List.range k).flatMap (unG xs og)
theorem stK_succ (xs : List (List Int)) (og : List Int) (u s : Nat) : stK xs og u (s + 1) = stK xs og u s ++ grp1 xs og u s := by
  unfold stK; rw [List.range_succ, List.flatMap_append]; simp
theorem unK_succ (xs : List (List Int)) (og : List Int) (k : Nat) : unK xs og (k + 1) = unK xs og k ++ unG xs og k := by
  unfold unK; rw [List.range_succ, List.flatMap_append]; simp
def plN (xs : List (List Int)) : Nat := (gl xs 0).length
def grErr (xs : List (List Int)) (og : List Int) : Int := if agErr xs ≠ 0 then agErr xs else if og.length ≠ plN xs then 9 else if stBad og (-1) 16 then 2 else 0
def groupsN (xs : List (List Int)) (og : List Int) : List Grp := if grErr xs og = 0 then unK xs og og.length else []
end Go.Proofs.YtgjcfkadioblfaaGreat
namespace Go.Proofs.YtgjcfkadioblfaaGreat
open Go.RowKit Go.Deep
theorem Tryz.infoStr2 : (Tryz.prog.info? 9).map (fun i => (i.zero, i.size, i.bytes)) = some (some (.string ⟨#[]⟩), 1, 16) := by kernel_rfl
/-- Beside block tb and the two lists' own blocks all lies as it lay. -/
structure GK (tb : Nat) (w W : World) (P N P' N' : Value) : Prop where
  os : W.os = w.os
  tape : W.tape = w.tape
  output : W.output = w.output
  size : w.heap.size ≤ W.heap.size
  block : ∀ b, b < w.heap.size → b ≠ tb → some b ≠ P.ownBlock → some b ≠ N.ownBlock → W.heap[b]? = w.heap[b]?
  newP : ∀ b, P'.ownBlock = some b → P.ownBlock = some b ∨ w.heap.size ≤ b
  newN : ∀ b, N'.ownBlock = some b → N.ownBlock = some b ∨ w.heap.size ≤ b
theorem GK.refl (tb : Nat) (w : World) (P N : Value) : GK tb w w P N P N := ⟨rfl, rfl, rfl, Nat.le_refl _, fun _ _ _ _ _ => rfl, fun _ h => .inl h, fun _ h => .inl h⟩
theorem GK.trans {tb : Nat} {w W X : World} {P N P' N' P2 N2 : Value} (h : GK tb w W P N P' N') (k : GK tb W X P' N' P2 N2) : GK tb w X P N P2 N2 :=
  ⟨k.os.trans h.os, k.tape.trans h.tape, k.output.trans h.output, Nat.le_trans h.size k.size, fun b hb h1 h2 h3 => by
    rw [← h.block b hb h1 h2 h3]
    refine k.block b (Nat.lt_of_lt_of_le hb h.size) h1 (fun e => ?_) (fun e => ?_)
    · rcases h.newP b e.symm with h4 | h4
      · exact h2 h4.symm
      · omega
    · rcases h.newN b e.symm with h4 | h4
      · exact h3 h4.symm
      · omega,
    fun b hb => by
      rcases k.newP b hb with h4 | h4
      · exact h.newP b h4
      · exact .inr (Nat.le_trans h.size h4),
    fun b hb => by
      rcases k.newN b hb with h4 | h4
      · exact h.newN b h4
      · exact .inr (Nat.le_trans h.size h4)⟩
theorem GK.up {tb : Nat} {w W X : World} {P N P' N' : Value} (h : GK tb w W P N P' N') (k : Up W X) : GK tb w X P N P' N' :=
  ⟨k.os.trans h.os, k.tape.trans h.tape, k.output.trans h.output, Nat.le_trans h.size k.size, fun b hb h1 h2 h3 => (Below.block k b (Nat.lt_of_lt_of_le hb h.size)).trans (h.block b hb h1 h2 h3), h.newP, h.newN⟩
theorem GK.of_up {tb : Nat} {w W : World} {P N : Value} (k : Up w W) : GK tb w W P N P N := (GK.refl tb w P N).up k
/-- The two lists, owned, apart. -/
structure TL (B0 : Nat) (W : World) (P N : Value) (ps : List Int) (ns : List ByteArray) : Prop where
  pown : Owns B0 3 W P (ps.map (Value.int .i64))
  nown : Owns B0 9 W N (ns.map Value.string)
  apart : ∀ b, P.ownBlock = some b → N.ownBlock ≠ some b
theorem Owns.same2 {base : Nat} {e : TypeId} {w w' : World} {v : Value} {vs : List Value} (h : Owns base e w v vs) (k : ∀ b, v.ownBlock = some b → w'.heap[b]? = w.heap[b]?) : Owns base e w' v vs := by
  refine ⟨h.1, ?_⟩
  rcases h.2 with h0 | ⟨g, cap, cur, rfl, hg, hc, hr⟩
  · exact .inl h0
  · exact .inr ⟨g, cap, cur, rfl, hg, (k g rfl).trans hc, hr⟩
structure RS (tb B0 : Nat) (w W : World) (P N Pv Nv : Value) (ps : List Int) (ns : List ByteArray) : Prop where
  gk : GK tb w W P N Pv Nv
  tl : TL B0 W Pv Nv ps ns
  same : W.heap[tb]? = w.heap[tb]?
  lo : tb < B0 ∧ B0 ≤ w.heap.size
section
variable {tb B0 : Nat} {w W W' : World} {P N Pv Nv : Value} {ps : List Int} {ns : List ByteArray}
theorem RS.start (h : TL B0 w P N ps ns) (hl : tb < B0 ∧ B0 ≤ w.heap.size) : RS tb B0 w w P N P N ps ns := ⟨GK.refl _ _ _ _, h, rfl, hl⟩
theorem TL.up (h : TL B0 W Pv Nv ps ns) (hu : Up W W') : TL B0 W' Pv Nv ps ns :=
  ⟨h.pown.same2 fun b hb => Below.block hu b (ownBlock_lt h.pown hb).2, h.nown.same2 fun b hb => Below.block hu b (ownBlock_lt h.nown hb).2, h.apart⟩
theorem RS.up (h : RS tb B0 w W P N Pv Nv ps ns) (hu : Up W W') : RS tb B0 w W' P N Pv Nv ps ns :=
  ⟨h.gk.up hu, h.tl.up hu, (Below.block hu tb (by have := h.gk.size; have := h.lo; omega)).trans h.same, h.lo⟩
theorem RS.appP (h : RS tb B0 w W P N Pv Nv ps ns) {g cap k : Nat} {u : Int} (ho : Owns B0 3 W' (.slice (some ⟨g, 0, none⟩) k cap) (ps.map (Value.int .i64) ++ [.int .i64 u])) (hg : W.grownBy W' Pv.ownBlock) (hor : Pv.ownBlock = some g ∨ W.heap.size ≤ g) :
    RS tb B0 w W' P N (.slice (some ⟨g, 0, none⟩) k cap) Nv (ps ++ [u]) ns := by
  have hlo := h.lo
  have hsz := h.gk.size
  refine ⟨⟨hg.os.trans h.gk.os, hg.tape.trans h.gk.tape, hg.output.trans h.gk.output, Nat.le_trans hsz hg.size, fun b hb h1 h2 h3 => ?_, fun b hb => ?_, h.gk.newN⟩, ⟨by rw [List.map_append]; exact ho, h.tl.nown.same2 fun b hb => hg.block b (ownBlock_lt h.tl.nown hb).2 (fun e => h.tl.apart b e.symm hb), fun b hb hb2 => ?_⟩, (hg.block tb (by omega) (fun e => by have := (ownBlock_lt h.tl.pown e.symm).1; omega)).trans h.same, hlo⟩
  · rw [← h.gk.block b hb h1 h2 h3]
    refine hg.block b (by omega) fun e => ?_
    rcases h.gk.newP b e.symm with h4 | h4
    · exact h2 h4.symm
    · omega
  · injection hb with hb
    have hb : g = b := hb
    subst hb
    rcases hor with h4 | h4
    · exact h.gk.newP g h4
    · exact .inr (by omega)
  · injection hb with hb
    have hb : g = b := hb
    subst hb
    rcases hor with h1 | h1
    · exact h.tl.apart g h1 hb2
    · have := (ownBlock_lt h.tl.nown hb2).2; omega
theorem RS.appN (h : RS tb B0 w W P N Pv Nv ps ns) {g cap k : Nat} {u : ByteArray} (ho : Owns B0 9 W' (.slice (some ⟨g, 0, none⟩) k cap) (ns.map Value.string ++ [.string u])) (hg : W.grownBy W' Nv.ownBlock) (hor : Nv.ownBlock = some g ∨ W.heap.size ≤ g) :
    RS tb B0 w W' P N Pv (.slice (some ⟨g, 0, none⟩) k cap) ps (ns ++ [u]) := by
  have hlo := h.lo
  have hsz := h.gk.size
  refine ⟨⟨hg.os.trans h.gk.os, hg.tape.trans h.gk.tape, hg.output.trans h.gk.output, Nat.le_trans hsz hg.size, fun b hb h1 h2 h3 => ?_, h.gk.newP, fun b hb => ?_⟩, ⟨h.tl.pown.same2 fun b hb => hg.block b (ownBlock_lt h.tl.pown hb).2 (fun e => h.tl.apart b hb e.symm), by rw [List.map_append]; exact ho, fun b hb hb2 => ?_⟩, (hg.block tb (by omega) (fun e => by have := (ownBlock_lt h.tl.nown e.symm).1; omega)).trans h.same, hlo⟩
  · rw [← h.gk.block b hb h1 h2 h3]
    refine hg.block b (by omega) fun e => ?_
    rcases h.gk.newN b e.symm with h4 | h4
    · exact h3 h4.symm
    · omega
  · injection hb with hb
    have hb : g = b := hb
    subst hb
    rcases hor with h4 | h4
    · exact h.gk.newN g h4
    · exact .inr (by omega)
  · injection hb2 with hb2
    have hb2 : g = b := hb2
    subst hb2
    rcases hor with h1 | h1
    · exact h.tl.apart g hb h1
    · have := (ownBlock_lt h.tl.pown hb).2; omega
end
/-- The tree under way, in block tb. -/
structure GS (tb B0 : Nat) (W : World) (P N : Value) (t : Tre) : Prop where
  box : W.heap[tb]? = some (Obj.cells #[P, N] 25 (0, 0))
  tl : TL B0 W P N t.ps t.ns
  lo : tb < B0 ∧ B0 ≤ W.heap.size
theorem GS.cells {tb B0 : Nat} {W : World} {P N : Value} {t : Tre} (h : GS tb B0 W P N t) : W.cell? ⟨tb, 0, none⟩ = some P ∧ W.cell? ⟨tb, 1, none⟩ = some N ∧ W.frozen? ⟨tb, 0, none⟩ = false ∧ W.frozen? ⟨tb, 1, none⟩ = false := by
  refine ⟨?_, ?_, ?_, ?_⟩ <;> simp [World.cell?, World.frozen?, h.box]
theorem GS.up {tb B0 : Nat} {W W' : World} {P N : Value} {t : Tre} (h : GS tb B0 W P N t) (hu : Up W W') : GS tb B0 W' P N t :=
  ⟨(Below.block hu tb (by have := h.lo; omega)).trans h.box, h.tl.up hu, ⟨h.lo.1, Nat.le_trans h.lo.2 hu.size⟩⟩
def Tre.push (t : Tre) (p : Int) (s : ByteArray) : Tre := ⟨t.ps ++ [p], t.ns ++ [s]⟩
theorem RS.cells {tb B0 : Nat} {w W : World} {P N Pv Nv P0 N0 : Value} {ps : List Int} {ns : List ByteArray} (h : RS tb B0 w W P N Pv Nv ps ns) (hb : w.heap[tb]? = some (Obj.cells #[P0, N0] 25 (0, 0))) :
    W.cell? ⟨tb, 0, none⟩ = some P0 ∧ W.cell? ⟨tb, 1, none⟩ = some N0 := by
  have h1 := h.same.trans hb
  exact ⟨by simp [World.cell?, h1], by simp [World.cell?, h1]⟩
theorem RS.frozen {tb B0 : Nat} {w W : World} {P N Pv Nv P0 N0 : Value} {ps : List Int} {ns : List ByteArray} (h : RS tb B0 w W P N Pv Nv ps ns) (hb : w.heap[tb]? = some (Obj.cells #[P0, N0] 25 (0, 0))) (o : Nat) :
    W.frozen? ⟨tb, o, none⟩ = false := by
  have h1 := h.same.trans hb
  simp [World.frozen?, h1]
/-- Both lists are stored. -/
theorem RS.store {tb B0 : Nat} {w W : World} {P N Pv Nv : Value} {t : Tre} {z : Int} {nm : ByteArray} (h0 : GS tb B0 w P N t) (h : RS tb B0 w W P N Pv Nv (t.ps ++ [z]) (t.ns ++ [nm])) :
    GS tb B0 ((W.setCell ⟨tb, 0, none⟩ Pv).setCell ⟨tb, 1, none⟩ Nv) Pv Nv (t.push z nm) ∧ GK tb w ((W.setCell ⟨tb, 0, none⟩ Pv).setCell ⟨tb, 1, none⟩ Nv) P N Pv Nv := by
  have h1 := h.same.trans h0.box
  have hset : ∀ b, b ≠ tb → ((W.setCell ⟨tb, 0, none⟩ Pv).setCell ⟨tb, 1, none⟩ Nv).heap[b]? = W.heap[b]? := fun b hb => by rw [blk_setCell_other _ _ _ _ hb, blk_setCell_other _ _ _ _ hb]
  have hsz : ((W.setCell ⟨tb, 0, none⟩ Pv).setCell ⟨tb, 1, none⟩ Nv).heap.size = W.heap.size := by simp [World.size_setCell]
  refine ⟨⟨by simp [World.setCell, Array.getElem?_modify, h1], ⟨h.tl.pown.same2 fun b hb => hset b ?_, h.tl.nown.same2 fun b hb => hset b ?_, h.tl.apart⟩, h.lo.1, by rw [hsz]; exact Nat.le_trans h.lo.2 h.gk.size⟩, h.gk.os, h.gk.tape, h.gk.output, by rw [hsz]; exact h.gk.size, fun b hb h2 h3 h4 => (hset b h2).trans (h.gk.block b hb h2 h3 h4), h.gk.newP, h.gk.newN⟩
  · have := (ownBlock_lt h.tl.pown hb).1; have := h.lo.1; omega
  · have := (ownBlock_lt h.tl.nown hb).1; have := h.lo.1; omega
end Go.Proofs.YtgjcfkadioblfaaGreat
namespace Go.Proofs.YtgjcfkadioblfaaGreat
open Go.RowKit Go.Deep
def vN (vs : List Value) (k : Nat) : Value := vs.getD k undef
mutual
/-- v points at the rose tree; its blocks lie in S. -/
def RAt (S : Nat → Prop) (w : World) : RT → Value → Prop
  | .node nm ks, v => ∃ b kv vs, v = .pointer (some ⟨b, 0, none⟩) ∧ S b ∧ w.heap[b]? = some (.cells #[.string nm, kv] 105 (0, 0)) ∧ SlAt S w kv ks.length (vN vs) ∧ RsAt S w ks vs
def RsAt (S : Nat → Prop) (w : World) : List RT → List Value → Prop
  | [], vs => vs = []
  | r :: rs, vs => ∃ u us, vs = u :: us ∧ RAt S w r u ∧ RsAt S w rs us
end
mutual
theorem RAt.keep {S : Nat → Prop} {w w' : World} (k : Kept S w w') : ∀ (r : RT) {v : Value}, RAt S w r v → RAt S w' r v
  | .node nm ks, v, h => by
    unfold RAt at h ⊢
    obtain ⟨b, kv, vs, rfl, hS, hb, hk, hs⟩ := h
    exact ⟨b, kv, vs, rfl, hS, (k b hS (Array.getElem?_eq_some_iff.1 hb).1).trans hb, hk.keep k, RsAt.keep k ks hs⟩
theorem RsAt.keep {S : Nat → Prop} {w w' : World} (k : Kept S w w') : ∀ (rs : List RT) {vs : List Value}, RsAt S w rs vs → RsAt S w' rs vs
  | [], _, h => by unfold RsAt at h ⊢; exact h
  | r :: rs, vs, h => by
    unfold RsAt at h ⊢
    obtain ⟨u, us, rfl, h1, h2⟩ := h
    exact ⟨u, us, rfl, RAt.keep k r h1, RsAt.keep k rs h2⟩
end
mutual
theorem RAt.sub {S T : Nat → Prop} {w : World} (k : ∀ b, S b → b < w.heap.size → T b) : ∀ (r : RT) {v : Value}, RAt S w r v → RAt T w r v
  | .node nm ks, v, h => by
    unfold RAt at h ⊢
    obtain ⟨b, kv, vs, rfl, hS, hb, hk, hs⟩ := h
    exact ⟨b, kv, vs, rfl, k b hS (Array.getElem?_eq_some_iff.1 hb).1, hb, hk.sub k, RsAt.sub k ks hs⟩
theorem RsAt.sub {S T : Nat → Prop} {w : World} (k : ∀ b, S b → b < w.heap.size → T b) : ∀ (rs : List RT) {vs : List Value}, RsAt S w rs vs → RsAt T w rs vs
  | [], _, h => by unfold RsAt at h ⊢; exact h
  | r :: rs, vs, h => by
    unfold RsAt at h ⊢
    obtain ⟨u, us, rfl, h1, h2⟩ := h
    exact ⟨u, us, rfl, RAt.sub k r h1, RsAt.sub k rs h2⟩
end
theorem RsAt.len {S : Nat → Prop} {w : World} : ∀ (rs : List RT) {vs : List Value}, RsAt S w rs vs → vs.length = rs.length
  | [], _, h => by unfold RsAt at h; subst h; rfl
  | r :: rs, vs, h => by
    unfold RsAt at h
    obtain ⟨u, us, rfl, _, h2⟩ := h
    rw [List.length_cons, List.length_cons, RsAt.len rs h2]
def gr (rs : List RT) (k : Nat) : RT := rs.getD k (.node ByteArray.empty [])
theorem RsAt.get {S : Nat → Prop} {w : World} : ∀ (rs : List RT) {vs : List Value}, RsAt S w rs vs → ∀ k, k < rs.length → RAt S w (gr rs k) (vN vs k)
  | [], _, _, k, hk => absurd hk (Nat.not_lt_zero _)
  | r :: rs, vs, h, k, hk => by
    unfold RsAt at h
    obtain ⟨u, us, rfl, h1, h2⟩ := h
    cases k with
    | zero => exact h1
    | succ k => exact RsAt.get rs h2 k (by simpa using hk)
theorem RsAt.app {S : Nat → Prop} {w : World} {r : RT} {u : Value} (hr : RAt S w r u) : ∀ (rs : List RT) {vs : List Value}, RsAt S w rs vs → RsAt S w (rs ++ [r]) (vs ++ [u])
  | [], vs, h => by
    unfold RsAt at h; subst h
    show RsAt S w [r] [u]
    unfold RsAt
    exact ⟨u, [], rfl, hr, by unfold RsAt; rfl⟩
  | q :: rs, vs, h => by
    unfold RsAt at h
    obtain ⟨x, us, rfl, h1, h2⟩ := h
    show RsAt S w (q :: (rs ++ [r])) (x :: (us ++ [u]))
    unfold RsAt
    exact ⟨x, us ++ [u], rfl, h1, RsAt.app hr rs h2⟩
/-- The node, opened: its cells. -/
theorem RAt.open {S : Nat → Prop} {w : World} {r : RT} {v : Value} (h : RAt S w r v) : ∃ b kp kc vs, v = .pointer (some ⟨b, 0, none⟩) ∧ S b ∧ w.cell? ⟨b, 0, none⟩ = some (.string r.nm) ∧ w.cell? ⟨b, 1, none⟩ = some (.slice kp r.kids.length kc) ∧ SlAt S w (.slice kp r.kids.length kc) r.kids.length (vN vs) ∧ RsAt S w r.kids vs := by
  cases r with
  | node nm ks =>
    unfold RAt at h
    obtain ⟨b, kv, vs, rfl, hS, hb, hk, hs⟩ := h
    obtain ⟨kp, kc, rfl, _, _⟩ := SlAt.open hk
    exact ⟨b, kp, kc, vs, rfl, hS, by simp [World.cell?, hb, RT.nm], by simp [World.cell?, hb, RT.kids], hk, hs⟩
theorem vN_get {p : Option Addr} {n cap : Nat} {S : Nat → Prop} {w : World} {vs : List Value} (h : SlAt S w (.slice p n cap) n (vN vs)) {k : Nat} (hk : k < n) : ∃ b off, p = some ⟨b, off, none⟩ ∧ w.cell? ⟨b, off + k, none⟩ = some (vN vs k) := by
  obtain ⟨q, c, e, _, H⟩ := SlAt.open h
  injection e with e1
  subst e1
  exact H k hk
/-- A node under way: block B, its children rs so far; all lies at base or beyond. -/
structure Wip (base B : Nat) (w : World) (nm : ByteArray) (kv : Value) (rs : List RT) : Prop where
  node : w.heap[B]? = some (.cells #[.string nm, kv] 105 (0, 0))
  lo : base ≤ B
  kids : ∃ vs, Owns (B + 1) 102 w kv vs ∧ RsAt (fun b => base ≤ b ∧ b ≠ B ∧ kv.ownBlock ≠ some b) w rs vs
theorem Wip.lt {base B : Nat} {w : World} {nm : ByteArray} {kv : Value} {rs : List RT} (h : Wip base B w nm kv rs) : B < w.heap.size := (Array.getElem?_eq_some_iff.1 h.node).1
theorem Wip.cells {base B : Nat} {w : World} {nm : ByteArray} {kv : Value} {rs : List RT} (h : Wip base B w nm kv rs) : w.cell? ⟨B, 0, none⟩ = some (.string nm) ∧ w.cell? ⟨B, 1, none⟩ = some kv ∧ w.frozen? ⟨B, 0, none⟩ = false ∧ w.frozen? ⟨B, 1, none⟩ = false := by
  refine ⟨?_, ?_, ?_, ?_⟩ <;> simp [World.cell?, World.frozen?, h.node]
theorem Wip.start (w : World) {base : Nat} (hb : base ≤ w.heap.size) (nm : ByteArray) : Wip base w.heap.size (w.alloc (.cells #[.string nm, .slice none 0 0] 105)) nm (.slice none 0 0) [] :=
  ⟨World.alloc_heap_new _ _, hb, [], Owns.nil _ _ _, by unfold RsAt; rfl⟩
theorem Wip.up {base B : Nat} {w w' : World} {nm : ByteArray} {kv : Value} {rs : List RT} (h : Wip base B w nm kv rs) (hu : Up w w') : Wip base B w' nm kv rs := by
  obtain ⟨vs, ho, hr⟩ := h.kids
  exact ⟨(Below.block hu B h.lt).trans h.node, h.lo, vs, ho.kept fun b _ hb => Below.block hu b hb, RsAt.keep (hu.kept _) rs hr⟩
/-- The node is done. -/
theorem Wip.done {base B : Nat} {w : World} {nm : ByteArray} {kv : Value} {rs : List RT} (h : Wip base B w nm kv rs) : RAt (fun b => base ≤ b) w (.node nm rs) (.pointer (some ⟨B, 0, none⟩)) := by
  obtain ⟨vs, ho, hr⟩ := h.kids
  have hlen := RsAt.len rs hr
  unfold RAt
  have h1 := ho.slAt
  rw [hlen] at h1
  exact ⟨B, kv, vs, rfl, h.lo, h.node, h1.sub fun b hb _ => by have := h.lo; omega, RsAt.sub (fun b hb _ => hb.1) rs hr⟩
/-- A child is appended: w0 the world ahead of the child, w the world behind it, W behind append, then the store. -/
theorem Wip.push {base B : Nat} {w W : World} {nm : ByteArray} {kv kv' : Value} {rs : List RT} {r : RT} {u : Value} {lim : Nat} (h : Wip base B w nm kv rs) (hr : RAt (fun b => lim ≤ b) w r u) (hl1 : base ≤ lim) (hl2 : B < lim) (hl3 : ∀ b, kv.ownBlock = some b → b < lim)
    {vs : List Value} (hv : RsAt (fun b => base ≤ b ∧ b ≠ B ∧ kv.ownBlock ≠ some b) w rs vs) (ho : Owns (B + 1) 102 W kv' (vs ++ [u])) (hg : w.grownBy W kv.ownBlock) (hor : ∀ b, kv'.ownBlock = some b → kv.ownBlock = some b ∨ w.heap.size ≤ b) :
    Wip base B (W.setCell ⟨B, 1, none⟩ kv') nm kv' (rs ++ [r]) := by
  have hBl := h.lt
  have hBk : kv.ownBlock ≠ some B := fun e => by
    obtain ⟨vs0, ho0, _⟩ := h.kids
    have := (ownBlock_lt ho0 e).1; omega
  have hBk' : kv'.ownBlock ≠ some B := fun e => by
    rcases hor B e with h1 | h1
    · exact hBk h1
    · omega
  have hset : ∀ b, b ≠ B → (W.setCell ⟨B, 1, none⟩ kv').heap[b]? = W.heap[b]? := fun b hb => blk_setCell_other _ _ _ _ hb
  have hB : W.heap[B]? = w.heap[B]? := hg.block B hBl (fun e => hBk e.symm)
  have hkeep : ∀ b, b ≠ B → kv.ownBlock ≠ some b → b < w.heap.size → (W.setCell ⟨B, 1, none⟩ kv').heap[b]? = w.heap[b]? := fun b h1 h2 h3 => (hset b h1).trans (hg.block b h3 fun e => h2 e.symm)
  refine ⟨?_, h.lo, vs ++ [u], ho.same2 fun b hb => hset b (fun e => hBk' (by rw [hb, e])), ?_⟩
  · have hn := hB.trans h.node
    simp [World.setCell, Array.getElem?_modify, hn]
  · have k1 : Kept (fun b => base ≤ b ∧ b ≠ B ∧ kv.ownBlock ≠ some b) w (W.setCell ⟨B, 1, none⟩ kv') := fun b hb hl => hkeep b hb.2.1 hb.2.2 hl
    have k2 : Kept (fun b => lim ≤ b) w (W.setCell ⟨B, 1, none⟩ kv') := fun b hb hl => hkeep b (by have : lim ≤ b := hb; omega) (fun e => by have := hl3 b e; have : lim ≤ b := hb; omega) hl
    have hsz : (W.setCell ⟨B, 1, none⟩ kv').heap.size = W.heap.size := by simp [World.size_setCell]
    have hold : ∀ b, b < w.heap.size → kv.ownBlock ≠ some b → kv'.ownBlock ≠ some b := fun b h1 h2 e => by
      rcases hor b e with h3 | h3
      · exact h2 h3
      · omega
    have h1 : RsAt (fun b => base ≤ b ∧ b ≠ B ∧ kv'.ownBlock ≠ some b) w rs vs := RsAt.sub (fun b hb hl => ⟨hb.1, hb.2.1, hold b hl hb.2.2⟩) rs hv
    have h2 : RAt (fun b => base ≤ b ∧ b ≠ B ∧ kv'.ownBlock ≠ some b) w r u := RAt.sub (fun b hb hl => ⟨by have : lim ≤ b := hb; omega, by have : lim ≤ b := hb; omega, hold b hl fun e => by have := hl3 b e; have : lim ≤ b := hb; omega⟩) r hr
    have k3 : Kept (fun b => base ≤ b ∧ b ≠ B ∧ kv'.ownBlock ≠ some b ∧ kv.ownBlock ≠ some b) w (W.setCell ⟨B, 1, none⟩ kv') := fun b hb hl => hkeep b hb.2.1 hb.2.2.2 hl
    have h1' : RsAt (fun b => base ≤ b ∧ b ≠ B ∧ kv'.ownBlock ≠ some b ∧ kv.ownBlock ≠ some b) w rs vs := RsAt.sub (fun b hb hl => ⟨hb.1, hb.2.1, hold b hl hb.2.2, hb.2.2⟩) rs hv
    have h2' : RAt (fun b => base ≤ b ∧ b ≠ B ∧ kv'.ownBlock ≠ some b ∧ kv.ownBlock ≠ some b) w r u := RAt.sub (fun b hb hl => ⟨by have : lim ≤ b := hb; omega, by have : lim ≤ b := hb; omega, hold b hl fun e => by have := hl3 b e; have : lim ≤ b := hb; omega, fun e => by have := hl3 b e; have : lim ≤ b := hb; omega⟩) r hr
    exact RsAt.sub (fun b hb _ => ⟨hb.1, hb.2.1, hb.2.2.1⟩) _ (RsAt.app (RAt.keep k3 r h2') rs (RsAt.keep k3 rs h1'))
end Go.Proofs.YtgjcfkadioblfaaGreat
namespace Go.Proofs.YtgjcfkadioblfaaGreat
open Go.RowKit Go.Deep
def lsB (a b : ByteArray) : Bool := Op.bytesLess a.toList b.toList
def minS (a b : ByteArray) : ByteArray := if (lsB a b || a.toList == b.toList) = true then a else b
mutual
/-- The least name, as the reference finds it. -/
def lstR : RT → ByteArray
  | .node nm [] => nm
  | .node _ (k :: ks) => lstRs (lstR k) ks
def lstRs (s : ByteArray) : List RT → ByteArray
  | [] => s
  | r :: rs => lstRs (minS s (lstR r)) rs
end
theorem lstRs_app (s : ByteArray) : ∀ (a b : List RT), lstRs s (a ++ b) = lstRs (lstRs s a) b
  | [], _ => by rw [lstRs]; rfl
  | r :: a, b => by rw [List.cons_append, lstRs, lstRs]; exact lstRs_app _ a b
theorem lstRs_take {s : ByteArray} {rs : List RT} {j : Nat} (h : j < rs.length) : lstRs s (rs.take (j + 1)) = minS (lstRs s (rs.take j)) (lstR (gr rs j)) := by
  have hg : gr rs j = rs[j] := by simp [gr, h]
  rw [List.take_succ_eq_append_getElem h, lstRs_app, lstRs, lstRs, hg]
theorem run_min_str {P : Program} {w : World} (ts : Array TypeId) (t : TypeId) (x y : ByteArray) : (Builtin.min_ ts t #[.string x, .string y]).run P w = .ok (.string (minS x y)) w := by
  unfold minS lsB
  simp [Builtin.min_, Builtin.min2, Op.stringOp, asBool]
theorem gr_size {ks : List RT} {j : Nat} (h : j < ks.length) : sizeR (gr ks j) ≤ sizeRs ks := by
  induction ks generalizing j with
  | nil => simp at h
  | cons k ks ih =>
    rw [sizeRs]
    cases j with
    | zero => show sizeR k ≤ _; omega
    | succ j =>
      have := ih (j := j) (by simpa using h)
      show sizeR (gr ks j) ≤ _
      omega
theorem len_sizeRs : ∀ ks : List RT, ks.length ≤ sizeRs ks
  | [] => Nat.le_refl _
  | k :: ks => by
    have := len_sizeRs ks
    have := sizeR_pos k
    rw [sizeRs, List.length_cons]; omega
set_option maxRecDepth 100000 in
set_option maxHeartbeats 2000000 in
theorem rleast_t (S : Nat → Prop) : ∀ (d : Nat) (r : RT), sizeR r ≤ d → d ≤ 1000000 → ∀ (w : World) (v : Value), RAt S w r v → Calls Tryz.prog 122 #[v] w fun e w' => e = .returned (.string (lstR r)) ∧ w = w' := by
  intro d
  induction d with
  | zero => intro r hr; have := sizeR_pos r; omega
  | succ d ih =>
  intro r hr hd w v hv
  cases r with
  | node nm ks =>
    obtain ⟨b, kp, kc, vs, rfl, hS, c0, c1, hk, hs⟩ := hv.open
    simp only [RT.nm, RT.kids] at c0 c1 hk hs
    have hkl := len_sizeRs ks
    rw [sizeR] at hr
    have HIH : Hid (∀ j, j < ks.length → Calls Tryz.prog 122 #[vN vs j] w fun e w' => e = .returned (.string (lstR (gr ks j))) ∧ w = w') := fun j hj => by
      have := gr_size hj
      exact ih _ (by omega) (by omega) w _ (RsAt.get ks hs j hj)
    have HK := Lib.hid hk
    clear ih hv hS hs hk
    cases ks with
    | nil =>
      clear hr
      go_enter Tryz.func122, Tryz.ntmps122
      go_wp2_with fail
      go_ret
      exact ⟨rfl, rfl⟩
    | cons k0 rs =>
      obtain ⟨kb, ko, rfl, hc0⟩ := vN_get HK.out (show 0 < (k0 :: rs).length by simp)
      have d0 : (((k0 :: rs).length : Int) == 0) = false := by simp; omega
      have hpos : (0 : Int) < ((k0 :: rs).length : Int) := by rw [List.length_cons]; omega
      have HL : Hid (lstR (.node nm (k0 :: rs)) = lstRs (lstR k0) rs) := by unfold Hid; rw [lstR]
      have H0 : Hid (Calls Tryz.prog 122 #[vN vs 0] w fun e w' => e = .returned (.string (lstR k0)) ∧ w = w') := HIH.out 0 (by simp)
      have HLL : Hid ((k0 :: rs).length = rs.length + 1) := List.length_cons
      have HBD : Hid ((k0 :: rs).length ≤ 1000000) := by unfold Hid; omega
      rw [Nat.add_zero] at hc0
      clear hr
      generalize (k0 :: rs).length = n at *
      go_enter Tryz.func122, Tryz.ntmps122
      go_wp2_with fail
      refine H0.out.mono ?_
      rintro e w' ⟨rfl, rfl⟩
      go_wp2_with fail
      go_loop [3, 4] (fun a i => ∃ j : Nat, j ≤ rs.length ∧ i = .int .i64 (j + 1 : Nat) ∧ a = .string (lstRs (lstR k0) (rs.take j))) (fun _ i => n - (intOf i).toNat)
      case atStart => exact ⟨0, Nat.zero_le _, rfl, by rw [List.take_zero, lstRs]⟩
      case round =>
        obtain ⟨j, hj, rfl, rfl⟩ := hrel
        by_cases hlt : j < rs.length
        · obtain ⟨kb2, ko2, e2, hcj⟩ := vN_get HK.out (show j + 1 < n by have := HLL.out; omega)
          injection e2 with e2
          injection e2 with e3 e4
          subst e3; subst e4
          have HJ : Hid (Calls Tryz.prog 122 #[vN vs (j + 1)] w fun e w' => e = .returned (.string (lstR (gr rs j))) ∧ w = w') := HIH.out (j + 1) (by have := HLL.out; omega)
          have HT := Lib.hid (lstRs_take (s := lstR k0) hlt)
          have i1 : (0 : Int) ≤ ((j + 1 : Nat) : Int) := by omega
          have i2 : ((j + 1 : Nat) : Int) < (n : Int) := by have := HLL.out; omega
          have i3 : ((j + 1 : Nat) : Int) < 1000000 := by have := HLL.out; have := HBD.out; omega
          have HLT := Lib.hid hlt
          have hmin := fun ts t => run_min_str (P := Tryz.prog) (w := w) ts t (lstRs (lstR k0) (rs.take j)) (lstR (gr rs j))
          generalize hm : j + 1 = m at *
          clear hlt hj hc0
          go_wp2_with fail
          refine HJ.out.mono ?_
          rintro e w' ⟨rfl, rfl⟩
          go_wp2_with fail
          go_round
          case rel => exact ⟨m, by have := HLT.out; omega, by go_num, by rw [HT.out]⟩
          case measure => have := HLT.out; have := HLL.out; simp [intOf]; omega
        · obtain rfl : j = rs.length := by omega
          have d1 : decide (((rs.length + 1 : Nat) : Int) < (n : Int)) = false := by simp; have := HLL.out; omega
          have hnl : ¬ (((rs.length + 1 : Nat) : Int) < (n : Int)) := by have := HLL.out; omega
          have HLN := Lib.hid hnl
          go_wp2_with fail
          go_ret
          exact ⟨by rw [HL.out]; rfl, rfl⟩
end Go.Proofs.YtgjcfkadioblfaaGreat
namespace Go.Proofs.YtgjcfkadioblfaaGreat
def Tre.app (t : Tre) (r : RT) (p : Int) : Tre := ⟨t.ps ++ psR r t.ps.length p, t.ns ++ nsR r⟩
def Tre.apps (t : Tre) (rs : List RT) (own : Nat) : Tre := ⟨t.ps ++ psRs rs own t.ps.length, t.ns ++ nsRs rs⟩
theorem psRs_app : ∀ (a b : List RT) (own n : Nat), psRs (a ++ b) own n = psRs a own n ++ psRs b own (n + sizeRs a)
  | [], _, _, _ => rfl
  | r :: a, b, own, n => by rw [List.cons_append, psRs, psRs, psRs_app a b own (n + sizeR r), sizeRs, List.append_assoc, Nat.add_assoc]
theorem nsRs_app : ∀ (a b : List RT), nsRs (a ++ b) = nsRs a ++ nsRs b
  | [], _ => rfl
  | r :: a, b => by rw [List.cons_append, nsRs, nsRs, nsRs_app a b, List.append_assoc]
theorem apps_nil (t : Tre) (own : Nat) : t.apps [] own = t := by simp [Tre.apps, psRs, nsRs]
theorem apps_apps (t : Tre) (a b : List RT) (own : Nat) : (t.apps a own).apps b own = t.apps (a ++ b) own := by
  unfold Tre.apps
  rw [psRs_app, nsRs_app, List.append_assoc, List.append_assoc, List.length_append, psRs_len]
theorem apps_app (t : Tre) (a : List RT) (r : RT) (own : Nat) : (t.apps a own).app r (own : Int) = t.apps (a ++ [r]) own := by
  rw [← apps_apps]
  simp [Tre.apps, Tre.app, psRs, nsRs]
end Go.Proofs.YtgjcfkadioblfaaGreat
