/- split.Build: what lies in memory while the tree grows. -/
import Derived.Test.YtpjijbophjdgaaaGreatQ51
import Derived.Test.YtpjijbophjdgaaaGreatQ47
import Derived.Test.YtpjijbophjdgaaaGreatQ12
import Derived.Test.YtpjijbophjdgaaaGreatQ39
namespace Go.Proofs.YtpjijbophjdgaaaGreat
open Go.RowKit Go.Deep
def bQ (names : List ByteArray) (own : List (List Int)) (j m : Nat) : Tre :=
  ⟨[-1, 0, 0] ++ ((List.range j).map (fun k => lastQ own (gi (gl own k) 0) k) ++ (List.range m).map fun b => lastQ own ((b + 1 : Nat) : Int) own.length),
   [ByteArray.empty, gs names 0, ByteArray.empty] ++ (List.replicate j ByteArray.empty ++ (List.range m).map fun b => gs names (b + 1))⟩
theorem bQ_own (names : List ByteArray) (own : List (List Int)) (j : Nat) : (bQ names own j 0).push (lastQ own (gi (gl own j) 0) j) ByteArray.empty = bQ names own (j + 1) 0 := by
  unfold bQ Tre.push
  simp [List.range_succ, List.replicate_succ']
theorem bQ_leaf (names : List ByteArray) (own : List (List Int)) (j m : Nat) : (bQ names own j m).push (lastQ own ((m + 1 : Nat) : Int) own.length) (gs names (m + 1)) = bQ names own j (m + 1) := by
  unfold bQ Tre.push
  simp [List.range_succ]
theorem bQ_len (names : List ByteArray) (own : List (List Int)) (j m : Nat) : (bQ names own j m).ps.length = 3 + j + m ∧ (bQ names own j m).ns.length = 3 + j + m := by
  unfold bQ
  constructor <;> simp <;> omega
structure AX (tb r o n : Nat) (W : World) (P N ov nv : Value) (own : List (List Int)) (nds : List Int) : Prop where
  lt : tb < r ∧ r < o ∧ o < n ∧ n < W.heap.size
  farP : ∀ b, P.ownBlock = some b → b ≠ r ∧ b ≠ o ∧ b ≠ n ∧ nv.ownBlock ≠ some b
  farN : ∀ b, N.ownBlock = some b → b ≠ r ∧ b ≠ o ∧ b ≠ n ∧ nv.ownBlock ≠ some b
  rb : W.heap[r]? = some (Obj.cells #[.int .i64 2] 3 (0, 0))
  ob : W.heap[o]? = some (Obj.cells #[ov] 22 (0, 0))
  nb : W.heap[n]? = some (Obj.cells #[nv] 26 (0, 0))
  rows : RowsAt (fun b => b ≠ tb ∧ b ≠ n ∧ some b ≠ P.ownBlock ∧ some b ≠ N.ownBlock ∧ some b ≠ nv.ownBlock) W ov own
  nds : Owns (n + 1) 3 W nv (nds.map (Value.int .i64))
section
variable {tb r o n : Nat} {W X : World} {P N P' N' ov nv nv' : Value} {own : List (List Int)} {nds : List Int}
theorem AX.gk (h : AX tb r o n W P N ov nv own nds) (k : GK tb W X P N P' N') : AX tb r o n X P' N' ov nv own nds := by
  obtain ⟨l1, l2, l3, l4⟩ := h.lt
  have far : ∀ {Q Q' : Value}, (∀ b, Q'.ownBlock = some b → Q.ownBlock = some b ∨ W.heap.size ≤ b) → (∀ b, Q.ownBlock = some b → b ≠ r ∧ b ≠ o ∧ b ≠ n ∧ nv.ownBlock ≠ some b) → ∀ b, Q'.ownBlock = some b → b ≠ r ∧ b ≠ o ∧ b ≠ n ∧ nv.ownBlock ≠ some b := fun h1 h2 b hb => by
    rcases h1 b hb with h3 | h3
    · exact h2 b h3
    · exact ⟨by omega, by omega, by omega, fun e => by have := (ownBlock_lt h.nds e).2; omega⟩
  have bl : ∀ b, b < W.heap.size → b ≠ tb → (∀ c, P.ownBlock = some c → b ≠ c) → (∀ c, N.ownBlock = some c → b ≠ c) → X.heap[b]? = W.heap[b]? := fun b hb h1 h2 h3 => k.block b hb h1 (fun e => h2 b e.symm rfl) (fun e => h3 b e.symm rfl)
  refine ⟨⟨l1, l2, l3, Nat.lt_of_lt_of_le l4 k.size⟩, far k.newP h.farP, far k.newN h.farN, ?_, ?_, ?_, ?_, ?_⟩
  · rw [bl r (by omega) (by omega) (fun c hc e => (h.farP c hc).1 e.symm) (fun c hc e => (h.farN c hc).1 e.symm)]; exact h.rb
  · rw [bl o (by omega) (by omega) (fun c hc e => (h.farP c hc).2.1 e.symm) (fun c hc e => (h.farN c hc).2.1 e.symm)]; exact h.ob
  · rw [bl n (by omega) (by omega) (fun c hc e => (h.farP c hc).2.2.1 e.symm) (fun c hc e => (h.farN c hc).2.2.1 e.symm)]; exact h.nb
  · refine ((h.rows.sub (T := fun b => (b ≠ tb ∧ b ≠ n ∧ some b ≠ P.ownBlock ∧ some b ≠ N.ownBlock ∧ some b ≠ nv.ownBlock) ∧ b < W.heap.size) fun b hb hl => ⟨hb, hl⟩).keep fun b hb hl => k.block b hl hb.1.1 hb.1.2.2.1 hb.1.2.2.2.1).sub fun b hb _ => ⟨hb.1.1, hb.1.2.1, fun e => ?_, fun e => ?_, hb.1.2.2.2.2⟩
    · rcases k.newP b e.symm with h1 | h1
      · exact hb.1.2.2.1 h1.symm
      · have := hb.2; omega
    · rcases k.newN b e.symm with h1 | h1
      · exact hb.1.2.2.2.1 h1.symm
      · have := hb.2; omega
  · exact h.nds.same2 fun b hb => bl b (ownBlock_lt h.nds hb).2 (by have := (ownBlock_lt h.nds hb).1; omega) (fun c hc e => (h.farP c hc).2.2.2 (e ▸ hb)) (fun c hc e => (h.farN c hc).2.2.2 (e ▸ hb))
theorem AX.up (h : AX tb r o n W P N ov nv own nds) (k : Up W X) : AX tb r o n X P N ov nv own nds := h.gk (GK.of_up k)
theorem AX.cells (h : AX tb r o n W P N ov nv own nds) : W.cell? ⟨r, 0, none⟩ = some (.int .i64 2) ∧ W.cell? ⟨o, 0, none⟩ = some ov ∧ W.cell? ⟨n, 0, none⟩ = some nv ∧ W.frozen? ⟨n, 0, none⟩ = false := by
  refine ⟨?_, ?_, ?_, ?_⟩ <;> simp [World.cell?, World.frozen?, h.rb, h.ob, h.nb]
theorem AX.app {B0 : Nat} {t : Tre} {z : Int} (h : AX tb r o n W P N ov nv own nds) (hG : GS tb B0 W P N t) {w8 : World} (ho : Owns (n + 1) 3 w8 nv' (nds.map (Value.int .i64) ++ [.int .i64 z])) (hg : W.grownBy w8 nv.ownBlock) (hor : ∀ b, nv'.ownBlock = some b → nv.ownBlock = some b ∨ W.heap.size ≤ b) :
    (w8.cell? ⟨n, 0, none⟩ = some nv ∧ w8.frozen? ⟨n, 0, none⟩ = false) ∧ AX tb r o n (w8.setCell ⟨n, 0, none⟩ nv') P N ov nv' own (nds ++ [z]) ∧ GS tb B0 (w8.setCell ⟨n, 0, none⟩ nv') P N t ∧ (∀ w0, Up w0 W → w0.heap.size ≤ tb → Up w0 (w8.setCell ⟨n, 0, none⟩ nv')) := by
  obtain ⟨l1, l2, l3, l4⟩ := h.lt
  have hnlt : ∀ b, nv.ownBlock = some b → n < b := fun b hb => (ownBlock_lt h.nds hb).1
  have h8 : ∀ b, b < W.heap.size → nv.ownBlock ≠ some b → w8.heap[b]? = W.heap[b]? := fun b hb hne => hg.block b hb fun e => hne e.symm
  have hx : ∀ b, b < W.heap.size → b ≠ n → nv.ownBlock ≠ some b → (w8.setCell ⟨n, 0, none⟩ nv').heap[b]? = W.heap[b]? := fun b hb hn hne => (blk_setCell_other _ _ _ _ hn).trans (h8 b hb hne)
  have hn8 : w8.heap[n]? = some (Obj.cells #[nv] 26 (0, 0)) := (h8 n l4 fun e => by have := hnlt n e; omega).trans h.nb
  have hnx : (w8.setCell ⟨n, 0, none⟩ nv').heap[n]? = some (Obj.cells #[nv'] 26 (0, 0)) := by simp [World.setCell, Array.getElem?_modify, hn8]
  have hsz : (w8.setCell ⟨n, 0, none⟩ nv').heap.size = w8.heap.size := World.size_setCell _ _ _
  have hle := hg.size
  have far : ∀ {Q : Value}, (∀ b, Q.ownBlock = some b → b < W.heap.size) → (∀ b, Q.ownBlock = some b → b ≠ r ∧ b ≠ o ∧ b ≠ n ∧ nv.ownBlock ≠ some b) → ∀ b, Q.ownBlock = some b → b ≠ r ∧ b ≠ o ∧ b ≠ n ∧ nv'.ownBlock ≠ some b := fun hq h2 b hb => by
    obtain ⟨h3, h4, h5, h6⟩ := h2 b hb
    refine ⟨h3, h4, h5, fun e => ?_⟩
    rcases hor b e with h7 | h7
    · exact h6 h7
    · have := hq b hb; omega
  have hPl : ∀ b, P.ownBlock = some b → b < W.heap.size := fun b hb => (ownBlock_lt hG.tl.pown hb).2
  have hNl : ∀ b, N.ownBlock = some b → b < W.heap.size := fun b hb => (ownBlock_lt hG.tl.nown hb).2
  refine ⟨⟨by simp [World.cell?, hn8], by simp [World.frozen?, hn8]⟩, ⟨⟨l1, l2, l3, by omega⟩, far hPl h.farP, far hNl h.farN, ?_, ?_, hnx, ?_, ?_⟩, ⟨?_, ⟨?_, ?_, hG.tl.apart⟩, hG.lo.1, by have := hG.lo.2; omega⟩, fun w0 hu hw => ?_⟩
  · rw [hx r (by omega) (by omega) fun e => by have := hnlt r e; omega]; exact h.rb
  · rw [hx o (by omega) (by omega) fun e => by have := hnlt o e; omega]; exact h.ob
  · refine ((h.rows.sub (T := fun b => (b ≠ tb ∧ b ≠ n ∧ some b ≠ P.ownBlock ∧ some b ≠ N.ownBlock ∧ some b ≠ nv.ownBlock) ∧ b < W.heap.size) fun b hb hl => ⟨hb, hl⟩).keep fun b hb hl => hx b hl hb.1.2.1 fun e => hb.1.2.2.2.2 e.symm).sub fun b hb _ => ⟨hb.1.1, hb.1.2.1, hb.1.2.2.1, hb.1.2.2.2.1, fun e => ?_⟩
    rcases hor b e.symm with h7 | h7
    · exact hb.1.2.2.2.2 h7.symm
    · have := hb.2; omega
  · rw [List.map_append]
    exact ho.kept fun b hb _ => blk_setCell_other _ _ _ _ (show b ≠ n by omega)
  · rw [hx tb (by omega) (by omega) fun e => by have := hnlt tb e; omega]; exact hG.box
  · exact hG.tl.pown.same2 fun b hb => hx b (hPl b hb) (h.farP b hb).2.2.1 (h.farP b hb).2.2.2
  · exact hG.tl.nown.same2 fun b hb => hx b (hNl b hb) (h.farN b hb).2.2.1 (h.farN b hb).2.2.2
  · refine ⟨hg.os.trans hu.os, hg.tape.trans hu.tape, hg.output.trans hu.output, by have := hu.size; omega, fun b hb => ?_⟩
    rw [hx b (by have := hu.size; omega) (by omega) fun e => by have := hnlt b e; omega]
    exact hu.block b hb
end
theorem GK.upw {tb : Nat} {w0 W X : World} {P N P' N' : Value} {t : Tre} {B0 : Nat} (h : GK tb W X P N P' N') (hG : GS tb B0 W P N t) (hu : Up w0 W) (hw : w0.heap.size ≤ tb) : Up w0 X :=
  ⟨h.os.trans hu.os, h.tape.trans hu.tape, h.output.trans hu.output, Nat.le_trans hu.size h.size, fun b hb => by
    have h1 := hG.lo
    rw [h.block b (by omega) (by omega) (fun e => by have := (ownBlock_lt hG.tl.pown e.symm).1; omega) (fun e => by have := (ownBlock_lt hG.tl.nown e.symm).1; omega)]
    exact hu.block b hb⟩
theorem Owns.slAtO {base : Nat} {e : TypeId} {w : World} {v : Value} {vs : List Value} (h : Owns base e w v vs) : SlAt (fun b => v.ownBlock = some b) w v vs.length (fun k => vs.getD k undef) := by
  obtain ⟨q, c, hv, hn, h0 | ⟨b, off, hq, hS, hc⟩⟩ := h.slAt
  · exact ⟨q, c, hv, hn, .inl h0⟩
  · subst hq; subst hv
    exact ⟨_, c, rfl, hn, .inr ⟨b, off, rfl, rfl, hc⟩⟩
theorem AX.start {tb r o B0 base : Nat} {w6 w11 : World} {P N ov v11 : Value} {t : Tre} {own : List (List Int)} {ps : List (List Int × Value)} (hG : GS tb B0 w6 P N t) (hr : r = w6.heap.size) (hb : r < base) (ho : r < o) (hu : Up w6 w11) (hrb : w11.heap[r]? = some (Obj.cells #[.int .i64 2] 3 (0, 0))) (hob : w11.heap[o]? = some (Obj.cells #[ov] 22 (0, 0)))
    (hR : RwS base w11 v11 ps) (hm : ps.map (·.1) = own) (hS : ∀ p ∈ ps, IntsAt (fun b => b < tb) w11 p.2 p.1) (hne : v11.ownBlock ≠ some o) :
    (w11.cell? ⟨o, 0, none⟩ = some ov ∧ w11.frozen? ⟨o, 0, none⟩ = false) ∧
    AX tb r o w11.heap.size ((w11.setCell ⟨o, 0, none⟩ v11).alloc (.cells #[.slice none 0 0] 26)) P N v11 (.slice none 0 0) own [] ∧ Up w6 ((w11.setCell ⟨o, 0, none⟩ v11).alloc (.cells #[.slice none 0 0] 26)) := by
  have l6 := hu.size
  have hol : o < w11.heap.size := (Array.getElem?_eq_some_iff.1 hob).1
  have hsz : (w11.setCell ⟨o, 0, none⟩ v11).heap.size = w11.heap.size := World.size_setCell _ _ _
  have hx : ∀ b, b < w11.heap.size → b ≠ o → ((w11.setCell ⟨o, 0, none⟩ v11).alloc (.cells #[.slice none 0 0] 26)).heap[b]? = w11.heap[b]? := fun b hb hbo =>
    ((Up.alloc (w11.setCell ⟨o, 0, none⟩ v11) (.cells #[.slice none 0 0] 26)).block b (by rw [hsz]; exact hb)).trans (blk_setCell_other _ _ _ _ hbo)
  have hPl : ∀ b, P.ownBlock = some b → tb < b ∧ b < w6.heap.size := fun b hb => by have := ownBlock_lt hG.tl.pown hb; have := hG.lo; omega
  have hNl : ∀ b, N.ownBlock = some b → tb < b ∧ b < w6.heap.size := fun b hb => by have := ownBlock_lt hG.tl.nown hb; have := hG.lo; omega
  have hvl : ∀ b, v11.ownBlock = some b → base ≤ b ∧ b < w11.heap.size := fun b hb => ownBlock_lt hR.own hb
  have hlo := hG.lo
  have ho8 : (w11.setCell ⟨o, 0, none⟩ v11).heap[o]? = some (Obj.cells #[v11] 22 (0, 0)) := by simp [World.setCell, Array.getElem?_modify, hob]
  refine ⟨⟨by simp [World.cell?, hob], by simp [World.frozen?, hob]⟩, ⟨⟨by omega, ho, hol, by rw [World.size_alloc, hsz]; omega⟩, fun b hb => ?_, fun b hb => ?_, ?_, ?_, ?_, ?_, Owns.nil _ _ _⟩, ?_⟩
  · have := hPl b hb; exact ⟨by omega, by omega, by omega, fun e => by cases e⟩
  · have := hNl b hb; exact ⟨by omega, by omega, by omega, fun e => by cases e⟩
  · rw [hx r (by omega) (by omega)]; exact hrb
  · exact ((Up.alloc _ _).block o (by rw [hsz]; exact hol)).trans ho8
  · have h := blk_alloc_new (w11.setCell ⟨o, 0, none⟩ v11) (.cells #[.slice none 0 0] 26)
    rw [hsz] at h; exact h
  · subst hm
    refine ⟨fun k => (ps.map (·.2)).getD k undef, ?_, fun k hk => ?_⟩
    · have h1 := hR.own.slAtO
      rw [List.length_map] at h1 ⊢
      refine ((h1.sub (T := fun b => v11.ownBlock = some b ∧ b < w11.heap.size) fun b hb hl => ⟨hb, hl⟩).keep fun b hb hl => hx b hl fun e => hne (e ▸ hb.1)).sub fun b hb _ => ?_
      obtain ⟨hb1, hb2⟩ := hb
      have := hvl b hb1
      exact ⟨by omega, by omega, fun e => by have := hPl b e.symm; omega, fun e => by have := hNl b e.symm; omega, fun e => by cases e⟩
    · have hk' : k < ps.length := by simpa using hk
      have h2 := hS ps[k] (List.getElem_mem hk')
      have e : gl (ps.map (·.1)) k = ps[k].1 := by simp [gl, hk']
      have e2 : (ps.map (·.2)).getD k undef = ps[k].2 := by simp [hk']
      rw [e]
      show IntsAt _ _ ((ps.map (·.2)).getD k undef) _
      rw [e2]
      refine (h2.keep fun b hb hl => hx b hl (by omega)).sub fun b hb _ => ⟨by omega, by omega, fun e => by have := hPl b e.symm; omega, fun e => by have := hNl b e.symm; omega, fun e => by cases e⟩
  · refine Up.trans (b := w11.setCell ⟨o, 0, none⟩ v11) ?_ (Up.alloc _ _)
    exact Below.setCell (p := ⟨o, 0, none⟩) hu (show w6.heap.size ≤ o by omega) _
end Go.Proofs.YtpjijbophjdgaaaGreat
