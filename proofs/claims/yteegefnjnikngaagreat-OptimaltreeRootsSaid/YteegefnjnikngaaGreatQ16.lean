/- The contract of phylotree.tree. -/
import Derived.Test.YteegefnjnikngaaGreatQ1
import Derived.Test.YteegefnjnikngaaGreatQ15
import Derived.Test.YteegefnjnikngaaGreatQ12
import Derived.Test.YteegefnjnikngaaGreatQ9
import Derived.RangeFuncWrites
set_option maxRecDepth 100000
namespace Go.Proofs.YteegefnjnikngaaGreat
open Go.RowKit Go.Shelf Go.Deep
attribute [local go_sem] Oper.semAt_some
theorem Tryz.Dt : (Tryz.prog.info? 9).map (fun i => (i.zero, i.size, i.bytes)) = some (some (.string ⟨#[]⟩), 1, 16) := by kernel_rfl
def k9 (l : List (Option Nat × Int)) (k : Option Nat) (v : Int) : List (Option Nat × Int) := if (l.lookup k).isNone then l ++ [(k, v)] else l.map fun x => if x.1 = k then (k, v) else x
structure xG where
 mp : List (Option Nat × Int)
 ps : List Int
 ns : List ByteArray
def oa (F : aP) (s : xG) (x : Nat × Option Nat) : xG :=
 ⟨k9 s.mp (some x.1) s.ps.length, s.ps ++ [((k9 s.mp (some x.1) s.ps.length).lookup x.2).getD 0], s.ns ++ [F.nm x.1]⟩
def Du : xG := ⟨[(none, -1)], [], []⟩
def cI (F : aP) (l : List (Nat × Option Nat)) : xG := l.foldl (oa F) Du
theorem yz (F : aP) (l : List (Nat × Option Nat)) (x : Nat × Option Nat) : cI F (l ++ [x]) = oa F (cI F l) x := by simp [cI]
def fO (F : aP) (rk : Nat → Nat) (i : Nat) : ax := ⟨(cI F (dR F rk i none)).ps, (cI F (dR F rk i none)).ns⟩
def mh (A : Nat → Nat) (l : List (Option Nat × Int)) : List (Option Nat × Value) := l.map fun x => (x.1.map A, .int .i64 x.2)
def uZ (n : Nat) (l : List (Option Nat × Int)) : Prop := ∀ x ∈ l, ∀ k, x.1 = some k → k < n
theorem map_inj {A : Nat → Nat} {n : Nat} (hinj : ∀ i j, i < n → j < n → A i = A j → i = j) {x y : Option Nat} (hx : ∀ k, x = some k → k < n) (hy : ∀ k, y = some k → k < n) (h : x.map A = y.map A) : x = y := by
 cases x with
 | none => cases y with
  | none => rfl
  | some b => cases h
 | some a => cases y with
  | none => cases h
  | some b =>
   simp only [Option.map_some, Option.some.injEq] at h
   rw [hinj a b (hx a rfl) (hy b rfl) h]
theorem z8 {A : Nat → Nat} {n : Nat} (hinj : ∀ i j, i < n → j < n → A i = A j → i = j) {k : Option Nat} (hk : ∀ j, k = some j → j < n) : ∀ {l : List (Option Nat × Int)}, uZ n l → (mh A l).lookup (k.map A) = (l.lookup k).map (Value.int .i64) := by
 intro l
 induction l with
 | nil => intro _; rfl
 | cons x l ih =>
  intro hl
  obtain ⟨x1, x2⟩ := x
  have hl2 : uZ n l := fun z hz => hl z (by simp [hz])
  show List.lookup (k.map A) ((x1.map A, Value.int .i64 x2) :: mh A l) = _
  rw [List.lookup_cons, List.lookup_cons]
  by_cases h : k = x1
  ·subst h; simp
  ·have h1 : (k == x1) = false := by simpa using h
   have h2 : (k.map A == x1.map A) = false := by
    simp only [beq_eq_false_iff_ne, ne_eq]
    exact fun e => h (map_inj hinj hk (fun j hj => hl (x1, x2) (by simp) j hj) e)
   rw [h1, h2]; exact ih hl2
theorem Sk {A : Nat → Nat} {n : Nat} (hinj : ∀ i j, i < n → j < n → A i = A j → i = j) {k : Option Nat} (hk : ∀ j, k = some j → j < n) {l : List (Option Nat × Int)} (hl : uZ n l) (v : Int) : uE (mh A l) (k.map A) (.int .i64 v) = mh A (k9 l k v) := by
 unfold uE k9
 rw [z8 hinj hk hl]
 cases h : l.lookup k with
 | none => simp [mh]
 | some y =>
  simp only [Option.map_some, Option.isNone_some, Bool.false_eq_true, if_false]
  unfold mh
  rw [List.map_map, List.map_map]
  refine List.map_congr_left fun x hx => ?_
  show (if x.1.map A = k.map A then (k.map A, Value.int .i64 v) else (x.1.map A, Value.int .i64 x.2)) = ((if x.1 = k then (k, v) else x).1.map A, Value.int .i64 (if x.1 = k then (k, v) else x).2)
  by_cases e : x.1 = k
  ·rw [if_pos (by rw [e]), if_pos e]
  ·rw [if_neg (fun e2 => e (map_inj hinj (fun j hj => hl x hx j hj) hk e2)), if_neg e]
theorem Pn {n : Nat} {l : List (Option Nat × Int)} (hl : uZ n l) {k : Option Nat} (hk : ∀ j, k = some j → j < n) (v : Int) : uZ n (k9 l k v) := by
 intro x hx
 unfold k9 at hx
 split at hx
 ·rcases List.mem_append.1 hx with h | h
  ·exact hl x h
  ·have : x = (k, v) := by simpa using h
   subst this; exact hk
 ·obtain ⟨y, hy, e⟩ := List.mem_map.1 hx
  split at e
  ·subst e; exact hk
  ·subst e; exact hl y hy
structure rC (n m : Nat) (s : xG) : Prop where
 keys : uZ n s.mp
 lp : s.ps.length = m
 ln : s.ns.length = m
theorem rC.step {n m : Nat} {s : xG} {F : aP} (h : rC n m s) (x : l6 n) : rC n (m + 1) (oa F s x.1) :=
 ⟨Pn h.keys (fun j hj => by cases hj; exact x.2.1) _, by show (s.ps ++ [_]).length = _; rw [List.length_append, h.lp]; rfl, by show (s.ns ++ [_]).length = _; rw [List.length_append, h.ln]; rfl⟩
theorem MT {n : Nat} {F : aP} : ∀ (l : List (l6 n)) (m : Nat) (s : xG), rC n m s → rC n (m + l.length) ((cM l).foldl (oa F) s) := by
 intro l
 induction l with
 | nil => intro m s h; exact h
 | cons x l ih =>
  intro m s h
  have h2 := ih (m + 1) _ (h.step (F := F) x)
  rw [show m + (x :: l).length = m + 1 + l.length by simp; omega]
  exact h2
theorem MU {n : Nat} {F : aP} (l : List (l6 n)) : rC n l.length (cI F (cM l)) := by
 have h := MT (F := F) l 0 Du ⟨fun x hx k hk => (by
  have : x = (none, -1) := by simpa [Du] using hx
  subst this; cases hk), rfl, rfl⟩
 rw [Nat.zero_add] at h; exact h
def Po (w : World) (t : ax) (e : Ending) (w' : World) : Prop := Up w w' ∧ ∃ v, e = .returned v ∧ aC (fun b => w.heap.size ≤ b) w' v t
structure ku (B0 : Nat) (w1 W : World) (Pv Nv : Value) (ps : List Int) (ns : List ByteArray) : Prop where
 cV : aA B0 3 W Pv (ps.map (Value.int .i64))
 dN : aA B0 9 W Nv (ns.map Value.string)
 apart : ∀ b, Pv.ownBlock = some b → Nv.ownBlock ≠ some b
 low : Below B0 w1 W
 fns : ∀ (b : Nat) (c : Array Value) (z : Nat × Nat), w1.heap[b]? = some (Obj.cells c 266 z) → W.heap[b]? = w1.heap[b]?
 far : KeepsFrom B0 w1 W
section
variable {B0 : Nat} {w1 W W' : World} {Pv Nv : Value} {ps : List Int} {ns : List ByteArray}
theorem aA.typed {base : Nat} {e : TypeId} {w : World} {v : Value} {vs : List Value} (h : aA base e w v vs) {b : Nat} (hb : v.ownBlock = some b) : ∃ c, w.heap[b]? = some (Obj.cells c e (0, 0)) := by
 obtain ⟨_, ⟨rfl, _⟩ | ⟨g, cap, cur, rfl, _, hc, _⟩⟩ := h
 ·cases hb
 ·injection hb with hb; subst hb; exact ⟨cur, hc⟩
theorem ku.up (h : ku B0 w1 W Pv Nv ps ns) (hu : Up W W') (hB : B0 ≤ W.heap.size) : ku B0 w1 W' Pv Nv ps ns :=
 ⟨h.cV.same fun b hb => Below.block hu b (aF h.cV hb).2, h.dN.same fun b hb => Below.block hu b (aF h.dN hb).2, h.apart, Below.trans h.low (Below.mono hu hB), fun b c z hb => by
  have h1 := h.fns b c z hb
  rw [← h1]
  exact Below.block hu b (by rw [hb] at h1; exact (Array.getElem?_eq_some_iff.1 h1).1), h.far.trans ⟨hu.size, fun k o _ hk _ => (Below.block hu k (Array.getElem?_eq_some_iff.1 hk).1).trans hk⟩⟩
theorem ku.AW (h : ku B0 w1 W Pv Nv ps ns) (hB : B0 ≤ W.heap.size) {g cap k : Nat} {u : Int} (ho : aA B0 3 W' (.slice (some ⟨g, 0, none⟩) k cap) (ps.map (Value.int .i64) ++ [.int .i64 u])) (hg : W.grownBy W' Pv.ownBlock) (eR : Pv.ownBlock = some g ∨ W.heap.size ≤ g) :
  ku B0 w1 W' (.slice (some ⟨g, 0, none⟩) k cap) Nv (ps ++ [u]) ns := by
 refine ⟨by rw [List.map_append]; exact ho, h.dN.same fun b hb => hg.block b (aF h.dN hb).2 (fun e => h.apart b e.symm hb), fun b hb hb2 => ?_, Below.trans h.low (h.cV.dJ hg hB), fun b c z hb => ?_, h.far.trans ⟨hg.size, fun k o _ hk hc => (hg.block k (Array.getElem?_eq_some_iff.1 hk).1 (fun e => ?_)).trans hk⟩⟩
 ·injection hb with hb
  have hb : g = b := hb
  subst hb
  rcases eR with h1 | h1
  ·exact h.apart g h1 hb2
  ·have := (aF h.dN hb2).2; omega
 ·have h1 := h.fns b c z hb
  rw [← h1]
  refine hg.block b (by rw [hb] at h1; exact (Array.getElem?_eq_some_iff.1 h1).1) (fun e => ?_)
  obtain ⟨c2, h2⟩ := h.cV.typed e.symm
  rw [h1, hb] at h2
  injection h2 with h2
  injection h2 with _ h2 _
  cases h2
 ·obtain ⟨c2, h2⟩ := h.cV.typed e.symm
  rw [h2] at hk; injection hk with hk; subst hk; cases hc
theorem ku.AX (h : ku B0 w1 W Pv Nv ps ns) (hB : B0 ≤ W.heap.size) {g cap k : Nat} {u : ByteArray} (ho : aA B0 9 W' (.slice (some ⟨g, 0, none⟩) k cap) (ns.map Value.string ++ [.string u])) (hg : W.grownBy W' Nv.ownBlock) (eR : Nv.ownBlock = some g ∨ W.heap.size ≤ g) :
  ku B0 w1 W' Pv (.slice (some ⟨g, 0, none⟩) k cap) ps (ns ++ [u]) := by
 refine ⟨h.cV.same fun b hb => hg.block b (aF h.cV hb).2 (fun e => h.apart b hb e.symm), by rw [List.map_append]; exact ho, fun b hb hb2 => ?_, Below.trans h.low (h.dN.dJ hg hB), fun b c z hb => ?_, h.far.trans ⟨hg.size, fun k o _ hk hc => (hg.block k (Array.getElem?_eq_some_iff.1 hk).1 (fun e => ?_)).trans hk⟩⟩
 ·injection hb2 with hb2
  have hb2 : g = b := hb2
  subst hb2
  rcases eR with h1 | h1
  ·exact h.apart g hb h1
  ·have := (aF h.cV hb).2; omega
 ·have h1 := h.fns b c z hb
  rw [← h1]
  refine hg.block b (by rw [hb] at h1; exact (Array.getElem?_eq_some_iff.1 h1).1) (fun e => ?_)
  obtain ⟨c2, h2⟩ := h.dN.typed e.symm
  rw [h1, hb] at h2
  injection h2 with h2
  injection h2 with _ h2 _
  cases h2
 ·obtain ⟨c2, h2⟩ := h.dN.typed e.symm
  rw [h2] at hk; injection hk with hk; subst hk; cases hc
end
def EH (n B0 Bt m : Nat) (A : Nat → Nat) (F : aP) (T : Nat → Prop) (w6 : World) (pre : List (l6 n)) (W : World) : Prop :=
 KS T w6 W ∧ Below (Bt) w6 W ∧ ∃ Pv Nv, W.heap[Bt]? = some (Obj.cells #[Pv, Nv] 39 (0, 0)) ∧ ku B0 W W Pv Nv (cI F (cM pre)).ps (cI F (cM pre)).ns ∧ jB W m (mh A (cI F (cM pre)).mp) ∧ wm (mh A (cI F (cM pre)).mp)
theorem EH.own {n B : Nat} {A : Nat → Nat} {F : aP} {w6 : World} (hz : w6.heap.size = B + 5) : OwnFrom w6.heap.size (EH n (B + 5) (B + 1) (B + 1 + 1) A F (fun b => b < B + 5 ∧ b ≠ B + 1 ∧ b ≠ B + 1 + 1) w6) := by
 intro s X Y row hs hg hr
 obtain ⟨hk, hb, Pv, Nv, jD, hT, hm, hu⟩ := hs
 have hsz : B + 5 ≤ X.heap.size := by have := hb.size; omega
 have AY : ∀ b, b < B + 5 → Y.heap[b]? = X.heap[b]? := fun b hb2 => hg.block b (by omega) (fun e => by obtain ⟨h1, _⟩ := hr b e.symm; omega)
 have hcell : ∀ (b : Nat) (c : Array Value) (e : TypeId) (z : Nat × Nat), X.heap[b]? = some (Obj.cells c e z) → Y.heap[b]? = X.heap[b]? := fun b c e z hc => hg.block b (Array.getElem?_eq_some_iff.1 hc).1 (fun e2 => by
  obtain ⟨_, o, h1, h2⟩ := hr b e2.symm
  rw [hc] at h1; injection h1 with h1; subst h1; cases h2)
 refine ⟨fun b hb2 => (AY b hb2.1).trans (hk b hb2), ⟨hg.os.trans hb.os, hg.tape.trans hb.tape, hg.output.trans hb.output, Nat.le_trans hb.size hg.size, fun b hb2 => (AY b (by omega)).trans (hb.block b hb2)⟩, Pv, Nv, (AY _ (by omega)).trans jD, ?_, hm.of_block (AY _ (by omega)), hu⟩
 refine ⟨hT.cV.same fun b hb2 => ?_, hT.dN.same fun b hb2 => ?_, hT.apart, Below.refl _ _, fun _ _ _ _ => rfl, KeepsFrom.refl _ _⟩
 ·obtain ⟨c, hc⟩ := hT.cV.typed hb2; exact hcell _ _ _ _ hc
 ·obtain ⟨c, hc⟩ := hT.dN.typed hb2; exact hcell _ _ _ _ hc
theorem EH.next {n B : Nat} {A : Nat → Nat} {F : aP} {w6 W w1 We : World} (hz : w6.heap.size = B + 5) {pre : List (l6 n)} {x : l6 n} (hks : KS (fun b => b < B + 5 ∧ b ≠ B + 1 ∧ b ≠ B + 1 + 1) w6 W) (kL : Below (B + 1) w6 W)
  {P0 N0 : Value} (jD : W.heap[B + 1]? = some (Obj.cells #[P0, N0] 39 (0, 0))) {es : List (Option Nat × Value)} (hmp0 : jB W (B + 1 + 1) es)
  (Dw : jB w1 (B + 1 + 1) (mh A (cI F (cM (pre ++ [x]))).mp)) (Ld : wm (mh A (cI F (cM (pre ++ [x]))).mp)) (hs1 : w1.heap.size = W.heap.size) (UB : w1.os = W.os) (MV : w1.tape = W.tape) (MW : w1.output = W.output) (hb1 : ∀ j, j ≠ B + 1 + 1 → w1.heap[j]? = W.heap[j]?)
  {Pv Nv : Value} (hT : ku (B + 5) w1 We Pv Nv (cI F (cM (pre ++ [x]))).ps (cI F (cM (pre ++ [x]))).ns) :
  KeepsFrom w6.heap.size W ((We.setCell ⟨B + 1, 0, none⟩ Pv).setCell ⟨B + 1, 1, none⟩ Nv) ∧ KN (fun b => b < B + 5 ∧ b ≠ B + 1 ∧ b ≠ B + 1 + 1) W ((We.setCell ⟨B + 1, 0, none⟩ Pv).setCell ⟨B + 1, 1, none⟩ Nv) ∧
   EH n (B + 5) (B + 1) (B + 1 + 1) A F (fun b => b < B + 5 ∧ b ≠ B + 1 ∧ b ≠ B + 1 + 1) w6 (pre ++ [x]) ((We.setCell ⟨B + 1, 0, none⟩ Pv).setCell ⟨B + 1, 1, none⟩ Nv) := by
 have b8 : ∀ b, b ≠ B + 1 → ((We.setCell ⟨B + 1, 0, none⟩ Pv).setCell ⟨B + 1, 1, none⟩ Nv).heap[b]? = We.heap[b]? := fun b hb => by rw [blk_setCell_other _ _ _ _ hb, blk_setCell_other _ _ _ _ hb]
 have hsz : ((We.setCell ⟨B + 1, 0, none⟩ Pv).setCell ⟨B + 1, 1, none⟩ Nv).heap.size = We.heap.size := by simp [World.size_setCell]
 have B6 : We.heap[B + 1]? = some (Obj.cells #[P0, N0] 39 (0, 0)) := (hT.low.block (B + 1) (by omega)).trans ((hb1 _ (by omega)).trans jD)
 have hbf : ((We.setCell ⟨B + 1, 0, none⟩ Pv).setCell ⟨B + 1, 1, none⟩ Nv).heap[B + 1]? = some (Obj.cells #[Pv, Nv] 39 (0, 0)) := by
  simp [World.setCell, Array.getElem?_modify, B6]
 have YU : KS (fun b => b < B + 5 ∧ b ≠ B + 1 ∧ b ≠ B + 1 + 1) W ((We.setCell ⟨B + 1, 0, none⟩ Pv).setCell ⟨B + 1, 1, none⟩ Nv) := fun b hb => (b8 b hb.2.1).trans ((hT.low.block b hb.1).trans (hb1 b hb.2.2))
 refine ⟨⟨?_, fun k o hk ho hc => ?_⟩, ⟨YU, fun b c z hb => ?_⟩, hks.trans YU, ⟨hT.low.os.trans (UB.trans kL.os), hT.low.tape.trans (MV.trans kL.tape), hT.low.output.trans (MW.trans kL.output), ?_, fun b hb => (YU b ⟨by omega, by omega, by omega⟩).trans (kL.block b hb)⟩, Pv, Nv, hbf, ⟨hT.cV.same fun b hb => b8 b (by have := (aF hT.cV hb).1; omega), hT.dN.same fun b hb => b8 b (by have := (aF hT.dN hb).1; omega), hT.apart, Below.refl _ _, fun _ _ _ _ => rfl, KeepsFrom.refl _ _⟩, Dw.of_block ((b8 _ (by omega)).trans (hT.low.block _ (by omega))), Ld⟩
 ·rw [hsz, ← hs1]; exact hT.low.size
 ·rw [b8 k (by omega)]
  exact hT.far.same k o (by omega) ((hb1 k (by omega)).trans ho) hc
 ·have hne : b ≠ B + 1 + 1 := fun e => by
   subst e
   obtain ⟨es', ck, h1, _⟩ := hmp0
   rw [h1] at hb; cases hb
  have Sl : b ≠ B + 1 := fun e => by
   subst e
   rw [jD] at hb
   injection hb with hb
   injection hb with _ hb _
   cases hb
  rw [b8 b Sl, hT.fns b c z (by rw [hb1 b hne]; exact hb), hb1 b hne]
 ·rw [hsz]; have h1 := hT.low.size; have h2 := kL.size; omega
set_option maxHeartbeats 4000000 in
theorem Ht {n base : Nat} {A : Nat → Nat} {kv : Nat → Value} {F : aP} {rk : Nat → Nat} (hwf : Wf F n rk) (hlen : ∀ i, i < n → (F.kids i).length ≤ 1000) (w : World) (i : Nat) (hi : i < n) (hF : aS base n A kv F w) (hN : (dR F rk i none).length ≤ 100000) :
  Calls Tryz.prog 164 #[.pointer (some ⟨A i, 0, none⟩)] w (Po w (fO F rk i)) := by
 refine (callsIn_wide (n := 9)).1 ?_
 refine callsIn_of_wp_marks Tryz.func164 rfl trivial ?_ rfl
 simp only [Tryz.ntmps164, List.size_toArray, List.length_cons, List.length_nil, Nat.reduceAdd, Nat.reduceSub, Array.replicate_succ, Array.replicate_zero, List.push_toArray, List.append_toArray, List.nil_append, List.cons_append]
 have hmm := fun W => run_makeMap (P := Tryz.prog) 229 W
 obtain ⟨w3, hw3⟩ : ∃ w3, w3 = ((w.alloc (.cells #[.slice none 0 0, .slice none 0 0] 39)).alloc (.cells #[.slice none 0 0, .slice none 0 0] 39)).alloc (.map #[] 0) := ⟨_, rfl⟩
 have cF : Up w w3 := by rw [hw3]; exact ((Up.alloc _ _).trans (Up.alloc _ _)).trans (Up.alloc _ _)
 have hz3 : w3.heap.size = w.heap.size + 3 := by rw [hw3]; simp
 have hp3 : jB w3 (w.heap.size + 1 + 1) [] := ⟨#[], 0, by
  rw [hw3]
  have h := blk_alloc_new ((w.alloc (.cells #[.slice none 0 0, .slice none 0 0] 39)).alloc (.cells #[.slice none 0 0, .slice none 0 0] 39)) (.map #[] 0)
  simp only [World.size_alloc] at h; exact h, rfl⟩
 have ht3 : w3.heap[w.heap.size + 1]? = some (Obj.cells #[.slice none 0 0, .slice none 0 0] 39 (0, 0)) := by
  rw [hw3, blk_alloc_lt _ _ _ (by simp)]
  have h := blk_alloc_new (w.alloc (.cells #[.slice none 0 0, .slice none 0 0] 39)) (.cells #[.slice none 0 0, .slice none 0 0] 39)
  rw [World.size_alloc] at h; exact h
 have hr3 : w3.heap[w.heap.size]? = some (Obj.cells #[.slice none 0 0, .slice none 0 0] 39 (0, 0)) := by
  rw [hw3, blk_alloc_lt _ _ _ (by simp; omega), blk_alloc_lt _ _ _ (by simp)]
  exact blk_alloc_new _ _
 obtain ⟨w4, b8, hp4, hs4, Pp, YV, YW, hb4⟩ := Hi (P := Tryz.prog) Tryz.underlying229 Tryz.underlying124 Tryz.sK hp3 List.nodup_nil (k := none) (.int .i64 (-1)) trivial (fun x hx => by cases hx)
 have b9 : Up w w4 := ⟨Pp.trans cF.os, YV.trans cF.tape, YW.trans cF.output, by rw [hs4]; exact cF.size, fun b hb => (hb4 b (by omega)).trans (Below.block cF b hb)⟩
 have ht4 := (hb4 (w.heap.size + 1) (by omega)).trans ht3
 have hr4 := (hb4 w.heap.size (by omega)).trans hr3
 have hz4 : w4.heap.size = w.heap.size + 3 := hs4.trans hz3
 rw [hw3] at b8
 simp only [pk] at b8
 have mD := aa b9
 have sM := aa ht4
 have HR4 := aa hr4
 have EI := aa hz4
 have EJ := aa hp4
 have HF := aa hF
 have Hr := aa hwf
 have HLEN := aa hlen
 have HN := aa hN
 clear hw3 cF hz3 hp3 ht3 hr3 hp4 hs4 Pp YV YW hb4 b9 ht4 hr4 hz4 hF hwf hlen hN
 gi_wp2_with fail
 refine ⟨trivial, (callsIn_wide.2 (Wb _ _)).mono ?_⟩
 rintro e w6 ⟨rfl, rfl⟩
 rw [World.size_alloc, EI.out]
 gi_wp2_with fail
 have dH : Up w4 ((w4.alloc (.cells #[.map (some (w.heap.size + 1 + 1))] 229)).alloc (.cells #[.pointer (some ⟨A i, 0, none⟩)] 124)) := (Up.alloc _ _).trans (Up.alloc _ _)
 have UC : ((w4.alloc (.cells #[.map (some (w.heap.size + 1 + 1))] 229)).alloc (.cells #[.pointer (some ⟨A i, 0, none⟩)] 124)).heap.size = w.heap.size + 5 := by simp [EI.out]
 have hx6 : ((w4.alloc (.cells #[.map (some (w.heap.size + 1 + 1))] 229)).alloc (.cells #[.pointer (some ⟨A i, 0, none⟩)] 124)).cell? ⟨w.heap.size + 3 + 1, 0, none⟩ = some (.pointer (some ⟨A i, 0, none⟩)) := by
  have h := aT (w4.alloc (.cells #[.map (some (w.heap.size + 1 + 1))] 229)) #[.pointer (some ⟨A i, 0, none⟩)] 124 0
  rw [World.size_alloc, EI.out] at h; exact h
 have hm6 : ((w4.alloc (.cells #[.map (some (w.heap.size + 1 + 1))] 229)).alloc (.cells #[.pointer (some ⟨A i, 0, none⟩)] 124)).cell? ⟨w.heap.size + 3, 0, none⟩ = some (.map (some (w.heap.size + 1 + 1))) := by
  have h := aT w4 #[.map (some (w.heap.size + 1 + 1))] 229 0
  rw [EI.out] at h
  exact (Up.alloc _ _).cell h
 have ht6 := (Below.block dH (w.heap.size + 1) (by rw [EI.out]; omega)).trans sM.out
 have hr6 := (Below.block dH w.heap.size (by rw [EI.out]; omega)).trans HR4.out
 have hp6 := EJ.out.of_block (Below.block dH (w.heap.size + 1 + 1) (by rw [EI.out]; omega))
 have hF6 := (HF.out.up mD.out).up dH
 have YX := mD.out.trans dH
 generalize (w4.alloc (.cells #[.map (some (w.heap.size + 1 + 1))] 229)).alloc (.cells #[.pointer (some ⟨A i, 0, none⟩)] 124) = w6 at *
 have hlt : ∀ j, j < n → A j < w.heap.size := fun j hj => HF.out.lt hj
 have hlo : ∀ j b, j < n → (kv j).ownBlock = some b → b < w.heap.size := fun j b hj hb => (HF.out.ep hj hb).2
 have hinj := HF.out.inj
 have HX := aa (show Up w w6 from YX)
 clear dH YX mD sM HR4 EI EJ b8
 generalize hB : w.heap.size = B at *
 have HB : Hid (w.heap.size = B) := hB
 clear hB
 apply wpIn_rangeFunc_ownG (F := Fence.wide) (n := 9) (P := Tryz.prog) (ps := #[11, 12]) (w := w6) rfl (by omega) (gf := 269) (lb := #[.pointer (some ⟨B + 3 + 1, 0, none⟩)]) rfl trivial (enters_of Tryz.func269 (by kernel_rfl) rfl)
  (KB (T := fun b => b < B + 5 ∧ b ≠ B + 1 ∧ b ≠ B + 1 + 1) Hr.out HLEN.out (fun j hj => ⟨by have := hlt j hj; omega, by have := hlt j hj; omega, by have := hlt j hj; omega⟩) (fun j b hj hb => ⟨by have := hlo j b hj hb; omega, by have := hlo j b hj hb; omega, by have := hlo j b hj hb; omega⟩) 8 (B + 3 + 1) i hi w6 (fun b hb => by rw [UC]; exact hb.1) ⟨by omega, by omega, by omega⟩ hF6 hx6)
  (fun h k => KN.trans h k) (fun W l o o' hl ho hc _ => ⟨fun b hb => World.putObj_heap_other (by have := hb.1; omega), fun b c z hb => World.putObj_heap_other (fun e => by subst e; rw [hb] at ho; injection ho with ho; subst ho; cases hc)⟩) (Below.refl _ _) (fun _ => (rfl : (2 : Nat) = 2))
  (EH n (B + 5) (B + 1) (B + 1 + 1) A F (fun b => b < B + 5 ∧ b ≠ B + 1 ∧ b ≠ B + 1 + 1) w6) (fun _ _ _ => False)
 ·exact EH.own UC
 ·exact fun _ _ _ _ _ h _ _ => h
 ·exact ⟨KS.refl _ _, Below.refl _ _, .slice none 0 0, .slice none 0 0, ht6, ⟨aA.nil _ _ _, aA.nil _ _ _, fun b hb => (by cases hb), Below.refl _ _, fun _ _ _ _ => rfl, KeepsFrom.refl _ _⟩, hp6, by simp [wm, mh, cM, cI, Du]⟩
 ·intro l x W K hK
  simp only [Ds]
  gi_wp2
  exact hK
 ·rintro l pre x W ⟨hks, kL, Pv, Nv, jD, u7, hmp, Ld⟩ hpl
  obtain ⟨⟨x1, xp⟩, hx1, sN⟩ := x
  have aY := aa hlt
  have YY := aa hinj
  have hxl := hlt x1 hx1
  have UD : aS base n A kv F W := hF6.same (fun j hj => hks (A j) ⟨by have := hlt j hj; omega, by have := hlt j hj; omega, by have := hlt j hj; omega⟩) (fun j b hj hb => hks b ⟨by have := hlo j b hj hb; omega, by have := hlo j b hj hb; omega, by have := hlo j b hj hb; omega⟩)
  have hok : rC n pre.length (cI F (cM pre)) := MU pre
  have hb0 : W.cell? ⟨B + 1, 0, none⟩ = some Pv := by simp [World.cell?, jD]
  have hmb : W.cell? ⟨B + 3, 0, none⟩ = some (.map (some (B + 1 + 1))) := by rw [World.cell?_of_block (a := ⟨B + 3, 0, none⟩) (hks (B + 3) ⟨by omega, by omega, by omega⟩)]; exact hm6
  obtain ⟨pp, pc, rfl, _⟩ := u7.cV.form (n := pre.length) (by rw [List.length_map]; exact hok.lp)
  have hkeys : ∀ z ∈ mh A (cI F (cM pre)).mp, gm W z.1 := fun z hz => by
   obtain ⟨y, hy, rfl⟩ := List.mem_map.1 hz
   obtain ⟨y1, y2⟩ := y
   cases y1 with
   | none => trivial
   | some k => exact UD.plain (hok.keys _ hy k rfl)
  obtain ⟨w1, b8, Dw, hs1, UB, MV, MW, hb1⟩ := Hi (P := Tryz.prog) Tryz.underlying229 Tryz.underlying124 Tryz.sK hmp Ld (k := some (A x1)) (.int .i64 (pre.length : Nat)) (UD.plain hx1) hkeys
  simp only [pk] at b8
  have Sm : pre.length ≤ 100000 := by have := HN.out; omega
  gi_wp2
  have kz : ku (B + 5) w1 w1 (.slice pp pre.length pc) Nv (cI F (cM pre)).ps (cI F (cM pre)).ns := ⟨u7.cV.same fun b hb => hb1 b (by have := (aF u7.cV hb).1; omega), u7.dN.same fun b hb => hb1 b (by have := (aF u7.dN hb).1; omega), u7.apart, Below.refl _ _, fun _ _ _ _ => rfl, KeepsFrom.refl _ _⟩
  obtain ⟨np, nc, rfl, _⟩ := u7.dN.form (n := pre.length) (by rw [List.length_map]; exact hok.ln)
  have hput : uE (mh A (cI F (cM pre)).mp) (some (A x1)) (.int .i64 (pre.length : Nat)) = mh A (cI F (cM (pre ++ [⟨(x1, xp), hx1, sN⟩]))).mp := by
   rw [uY, show cM [(⟨(x1, xp), hx1, sN⟩ : l6 n)] = [(x1, xp)] from rfl, yz]
   show _ = mh A (k9 (cI F (cM pre)).mp (some x1) ((cI F (cM pre)).ps.length : Nat))
   rw [hok.lp, ← Sk YY.out (fun j hj => by cases hj; exact hx1) hok.keys]; rfl
  rw [hput] at Dw
  have YZ : wm (mh A (cI F (cM (pre ++ [⟨(x1, xp), hx1, sN⟩]))).mp) := by rw [← hput]; exact Pa Ld _ _
  have Sn : rC n (pre ++ [(⟨(x1, xp), hx1, sN⟩ : l6 n)]).length (cI F (cM (pre ++ [⟨(x1, xp), hx1, sN⟩]))) := MU _
  have EG : aS base n A kv F w1 := UD.same (fun j hj => hb1 _ (by have := aY.out j hj; omega)) (fun j b hj hb => hb1 _ (by have := hlo j b hj hb; omega))
  obtain ⟨z, hz⟩ : ∃ z : Int, z = (((cI F (cM (pre ++ [⟨(x1, xp), hx1, sN⟩]))).mp).lookup xp).getD 0 := ⟨_, rfl⟩
  have Y0 : (cI F (cM (pre ++ [⟨(x1, xp), hx1, sN⟩]))).ps = (cI F (cM pre)).ps ++ [z] := by
   rw [hz, uY, show cM [(⟨(x1, xp), hx1, sN⟩ : l6 n)] = [(x1, xp)] from rfl, yz]; rfl
  have Y1 : (cI F (cM (pre ++ [⟨(x1, xp), hx1, sN⟩]))).ns = (cI F (cM pre)).ns ++ [F.nm x1] := by
   rw [uY, show cM [(⟨(x1, xp), hx1, sN⟩ : l6 n)] = [(x1, xp)] from rfl, yz]; rfl
  have MX : Hid (∀ We P2 N2, ku (B + 5) w1 We P2 N2 ((cI F (cM pre)).ps ++ [z]) ((cI F (cM pre)).ns ++ [F.nm x1]) → KeepsFrom w6.heap.size W ((We.setCell ⟨B + 1, 0, none⟩ P2).setCell ⟨B + 1, 1, none⟩ N2) ∧ KN (fun b => b < B + 5 ∧ b ≠ B + 1 ∧ b ≠ B + 1 + 1) W ((We.setCell ⟨B + 1, 0, none⟩ P2).setCell ⟨B + 1, 1, none⟩ N2) ∧
   EH n (B + 5) (B + 1) (B + 1 + 1) A F (fun b => b < B + 5 ∧ b ≠ B + 1 ∧ b ≠ B + 1 + 1) w6 (pre ++ [⟨(x1, xp), hx1, sN⟩]) ((We.setCell ⟨B + 1, 0, none⟩ P2).setCell ⟨B + 1, 1, none⟩ N2)) := fun We P2 N2 hT => EH.next UC hks kL jD hmp Dw YZ hs1 UB MV MW hb1 (by rw [Y0, Y1]; exact hT)
  have hb0 : w1.heap[B + 1]? = some (Obj.cells #[.slice pp pre.length pc, .slice np pre.length nc] 39 (0, 0)) := (hb1 _ (by omega)).trans jD
  have iV : Hid (∀ w', KS (fun b => b < B + 5) w1 w' → w'.cell? ⟨B + 1, 0, none⟩ = some (.slice pp pre.length pc) ∧ w'.cell? ⟨B + 1, 1, none⟩ = some (.slice np pre.length nc) ∧ w'.cell? ⟨B + 3, 0, none⟩ = some (.map (some (B + 1 + 1))) ∧ w'.cell? ⟨A x1, 0, none⟩ = some (.string (F.nm x1)) ∧ (Instr.lookup 229 (.map (some (B + 1 + 1))) (optr A xp) false).run Tryz.prog w' = .ok (.int .i64 z) w') := fun w' hS => by
   refine ⟨?_, ?_, ?_, ?_, ?_⟩
   ·simp [World.cell?, (hS (B + 1) (by omega)).trans hb0]
   ·simp [World.cell?, (hS (B + 1) (by omega)).trans hb0]
   ·rw [World.cell?_of_block (a := ⟨B + 3, 0, none⟩) ((hS (B + 3) (by show B + 3 < B + 5; omega)).trans (hb1 (B + 3) (by omega)))]; exact hmb
   ·rw [World.cell?_of_block (a := ⟨A x1, 0, none⟩) (hS (A x1) (by show A x1 < B + 5; omega))]; exact EG.name hx1
   ·have hpl : ∀ j, j < n → Plain w' (A j) := fun j hj => (EG.plain hj).of_block (hS _ (by have := aY.out j hj; show A j < B + 5; omega))
    have h := Pb (P := Tryz.prog) (w := w') Tryz.underlying229 Tryz.underlying124 Tryz.sK (z := .int .i64 0) Tryz.zeroValue3 (Dw.of_block (hS _ (by show B + 1 + 1 < B + 5; omega))) (k := xp.map A)
     (by cases xp with | none => trivial | some k => exact hpl k (sN k rfl)) (fun zz hzz => by
      obtain ⟨y, hy, rfl⟩ := List.mem_map.1 hzz
      obtain ⟨y1, y2⟩ := y
      cases y1 with
      | none => trivial
      | some k => exact hpl k (Sn.keys _ hy k rfl))
    rw [z8 YY.out (fun j hj => sN j hj) Sn.keys] at h
    have e1 : pk (xp.map A) = optr A xp := by cases xp <;> rfl
    have e2 : ((((cI F (cM (pre ++ [⟨(x1, xp), hx1, sN⟩]))).mp).lookup xp).map (Value.int .i64)).getD (.int .i64 0) = .int .i64 z := by rw [hz]; cases List.lookup xp (cI F (cM (pre ++ [⟨(x1, xp), hx1, sN⟩]))).mp <;> rfl
    rw [e1, e2] at h; exact h
  have Le : Hid (∀ w', KS (fun b => b < B + 5) w1 w' → ∀ o, w'.frozen? ⟨B + 1, o, none⟩ = false) := fun w' hS o => by simp [World.frozen?, (hS (B + 1) (by omega)).trans hb0]
  have UE : Hid (ku (B + 5) w1 w1.drew (.slice pp pre.length pc) (.slice np pre.length nc) (cI F (cM pre)).ps (cI F (cM pre)).ns) := kz.up (Up.drewN w1 1) (by rw [hs1]; have := kL.size; omega)
  have nG : Hid ((cI F (cM pre)).ps.length = pre.length ∧ (cI F (cM pre)).ns.length = pre.length) := ⟨hok.lp, hok.ln⟩
  have UF : B + 5 ≤ w1.drew.heap.size := by show B + 5 ≤ w1.heap.size; rw [hs1]; have := kL.size; omega
  have HFW1 := aa EG
  clear hput kz u7 Ld YZ hok Sn Y0 Y1 hb0 EG UD hmp Dw b8 hks kL jD hkeys hmb hz hb1 hs1 UB MV MW hlt hlo hinj
  generalize (cI F (cM pre)).ps = PS at *
  generalize (cI F (cM pre)).ns = NS at *
  generalize F.nm x1 = nm at *
  refine RP (by kernel_rfl) 15 (KS (fun b => b < B + 5) w1) (KS.refl _ _) (fun hS => ?_)
  simp only [List.size_toArray, List.length_cons, List.length_nil, Nat.reduceAdd, Array.replicate_succ, Array.replicate_zero, List.push_toArray, List.nil_append, List.cons_append]
  generalize w1.drew = Wd at *
  refine bE.take (i := 0) (v := ?OX) rfl (by kernel_rfl) (fun _ _ _ h => h) (by rfl) (fun _ => rfl) (fun w hSw => ?yu) hS ?OY
  case yu =>
   obtain ⟨q1, q2, q3, q4, q5⟩ := iV.out w hSw
   go_simp
   try with_reducible rfl
  try simp only [Act.put, aq, ah, au]
  refine bE.take (i := 1) (v := ?OZ) rfl (by kernel_rfl) (fun _ _ _ h => h) (by rfl) (fun _ => rfl) (fun w hSw => ?yw) hS ?O0
  case yw =>
   obtain ⟨q1, q2, q3, q4, q5⟩ := iV.out w hSw
   go_simp
   try with_reducible rfl
  try simp only [Act.put, aq, ah, au]
  refine bE.take (i := 2) (v := ?O1) rfl (by kernel_rfl) (fun _ _ _ h => h) (by rfl) (fun _ => rfl) (fun w hSw => ?yx) hS ?O2
  case yx =>
   obtain ⟨q1, q2, q3, q4, q5⟩ := iV.out w hSw
   go_simp
   try with_reducible rfl
  try simp only [Act.put, aq, ah, au]
  refine bE.take (i := 3) (v := ?Yn) rfl (by kernel_rfl) (fun _ _ _ h => h) (by rfl) (fun _ => rfl) (fun w hSw => ?G2) hS ?Yo
  case G2 =>
   obtain ⟨q1, q2, q3, q4, q5⟩ := iV.out w hSw
   go_simp
   try with_reducible rfl
  try simp only [Act.put, aq, ah, au]
  refine bE.take (i := 4) (v := ?Yp) rfl (by kernel_rfl) (fun _ _ _ h => h) (by rfl) (fun _ => rfl) (fun w hSw => ?G3) hS ?Yq
  case G3 =>
   obtain ⟨q1, q2, q3, q4, q5⟩ := iV.out w hSw
   go_simp
   try with_reducible rfl
  try simp only [Act.put, aq, ah, au]
  refine bE.take (i := 7) (v := ?Ut) rfl (by kernel_rfl) (fun _ _ _ h => h) (by rfl) (fun _ => rfl) (fun w hSw => ?BZ) hS ?Uu
  case BZ =>
   obtain ⟨q1, q2, q3, q4, q5⟩ := iV.out w hSw
   go_simp
   try with_reducible rfl
  try simp only [Act.put, aq, ah, au]
  refine bE.take (i := 8) (v := ?Uv) rfl (by kernel_rfl) (fun _ _ _ h => h) (by rfl) (fun _ => rfl) (fun w hSw => ?B1) hS ?Uw
  case B1 =>
   obtain ⟨q1, q2, q3, q4, q5⟩ := iV.out w hSw
   go_simp
   try with_reducible rfl
  try simp only [Act.put, aq, ah, au]
  refine bE.take (i := 9) (v := ?Ux) rfl (by kernel_rfl) (fun _ _ _ h => h) (by rfl) (fun _ => rfl) (fun w hSw => ?B2) hS ?Uy
  case B2 =>
   obtain ⟨q1, q2, q3, q4, q5⟩ := iV.out w hSw
   go_simp
   try with_reducible rfl
  try simp only [Act.put, aq, ah, au]
  refine bE.take (i := 10) (v := ?R3) rfl (by kernel_rfl) (fun _ _ _ h => h) (by rfl) (fun _ => rfl) (fun w hSw => ?AU) hS ?R4
  case AU =>
   obtain ⟨q1, q2, q3, q4, q5⟩ := iV.out w hSw
   go_simp
   try with_reducible rfl
  try simp only [Act.put, aq, ah, au]
  refine bE.take (i := 11) (v := ?Yw) rfl (by kernel_rfl) (fun _ _ _ h => h) (by rfl) (fun _ => rfl) (fun w hSw => ?G6) hS ?Yx
  case G6 =>
   obtain ⟨q1, q2, q3, q4, q5⟩ := iV.out w hSw
   go_simp
   try with_reducible rfl
  try simp only [Act.put, aq, ah, au]
  refine bE.take (i := 12) (v := ?Yy) rfl (by kernel_rfl) (fun _ _ _ h => h) (by rfl) (fun _ => rfl) (fun w hSw => ?G7) hS ?Yz
  case G7 =>
   obtain ⟨q1, q2, q3, q4, q5⟩ := iV.out w hSw
   go_simp
   try with_reducible rfl
  try simp only [Act.put, aq, ah, au]
  refine bE.wh (i := 5) (i2 := 13) rfl rfl (by kernel_rfl) (fun K' hK => ?_) (fun K' hK => ?_)
  ·go_simp
   have Hu : Hid (ku (B + 5) w1 (Wd.alloc (.cells #[.int .i64 z] 3)) _ _ _ _) := UE.out.up (Up.alloc _ _) UF
   have EK : B + 5 ≤ (Wd.alloc (.cells #[.int .i64 z] 3)).heap.size := Nat.le_trans UF (Up.alloc _ _).size
   refine hK.out _ _ (fun _ => Hu.out.low.block) (fun _ => ?_)
   try simp only [aq, ah, au]
   refine bE.wh (i := 6) (i2 := 13) rfl rfl (by kernel_rfl) (fun K' hK => ?_) (fun K' hK => ?_)
   ·refine lN (by rfl) _ _ _ (by rfl) (B + 5) 3 _ 8 Tryz.underlying26 Tryz.lK (by rfl) (by decide) (by rfl) Hu.out.cV (.int .i64 z) Wd.heap.size (by rfl) (aT Wd #[.int .i64 z] 3 0) (by rfl) (by rw [List.length_map, nG.out.1]; omega) EK ?_
    intro g1 Pq kA sO kJ hrg1 _
    have yA : Hid (ku (B + 5) w1 kA _ _ _ _) := Hu.out.AW EK sO kJ (hrg1.imp id (fun e => Nat.le_of_eq e.symm))
    have Aa : B + 5 ≤ kA.heap.size := Nat.le_trans EK kJ.size
    refine hK.out _ _ (fun _ => yA.out.low.block) (fun _ => ?_)
    try simp only [Act.put, aq, ah, au]
    refine bE.free (i := 15) (v := ?gv15a) rfl (by kernel_rfl) (fun _ _ _ h => h) (by rfl) (fun _ => rfl) (fun w => ?MZ) (fun _ => yA.out.low.block) ?gr15a
    case MZ =>
     go_simp
     try with_reducible rfl
    try simp only [Act.put, aq, ah, au]
    refine bE.step (i := 13) rfl (by kernel_rfl) (fun K' hK => ?_)
    go_simp
    have ve : Hid (ku (B + 5) w1 (kA.alloc (.cells #[.string nm] 9)) _ _ _ _) := yA.out.up (Up.alloc _ _) Aa
    have yB : B + 5 ≤ (kA.alloc (.cells #[.string nm] 9)).heap.size := Nat.le_trans Aa (Up.alloc _ _).size
    refine hK.out _ _ (fun _ => ve.out.low.block) (fun _ => ?_)
    try simp only [aq, ah, au]
    refine bE.step (i := 14) rfl (by kernel_rfl) (fun K' hK => ?_)
    refine lN (by rfl) _ _ _ (by rfl) (B + 5) 9 _ 16 Tryz.underlying22 Tryz.Dt (by rfl) (by decide) (by rfl) ve.out.dN (.string nm) kA.heap.size (by rfl) (aT kA #[.string nm] 9 0) (by rfl) (by rw [List.length_map, nG.out.2]; omega) yB ?_
    intro g2 Pr fo sP od hrg2 _
    have nH : Hid (ku (B + 5) w1 fo _ _ _ _) := ve.out.AX yB sP od (hrg2.imp id (fun e => Nat.le_of_eq e.symm))
    have hSf : B + 5 ≤ fo.heap.size := Nat.le_trans yB od.size
    refine hK.out _ _ (fun _ => nH.out.low.block) (fun _ => ?_)
    try simp only [Act.put, aq, ah, au]
    have B6 : fo.cell? ⟨B + 1, 0, none⟩ = some (.slice pp pre.length pc) := (iV.out fo nH.out.low.block).1
    have og : fo.cell? ⟨B + 1, 1, none⟩ = some (.slice np pre.length nc) := (iV.out fo nH.out.low.block).2.1
    have xH : fo.frozen? ⟨B + 1, 0, none⟩ = false := Le.out fo nH.out.low.block 0
    have Hv : fo.frozen? ⟨B + 1, 1, none⟩ = false := Le.out fo nH.out.low.block 1
    have mj := aa (MX.out fo _ _ nH.out)
    refine bE.step (i := 16) rfl (by kernel_rfl) (fun K' hK => ?_)
    go_simp
    refine hK.out _ _ (aJ (by kernel_rfl)) (fun _ => ?_)
    try simp only [aq, ah, au]
    refine bE.free (i := 17) (v := ?gv17a) rfl (by kernel_rfl) (fun _ _ _ h => h) (by rfl) (fun _ => rfl) (fun w => ?gy17a) (aJ (by kernel_rfl)) ?gr17a
    case gy17a =>
     go_simp
     try with_reducible rfl
    try simp only [Act.put, aq, ah, au]
    refine bE.step (i := 18) rfl (by kernel_rfl) (fun K' hK => ?_)
    go_simp
    refine hK.out _ _ (aJ (by kernel_rfl)) (fun _ => ?_)
    refine bE.done (by kernel_rfl) ?_
    gi_wp2
    have dG := mj.out
    simp only [List.length_map] at dG
    exact dG
   ·go_simp
    have yA : Hid (ku (B + 5) w1 ((Wd.alloc (.cells #[.int .i64 z] 3)).alloc (.cells #[.string nm] 9)) _ _ _ _) := Hu.out.up (Up.alloc _ _) EK
    have Aa : B + 5 ≤ ((Wd.alloc (.cells #[.int .i64 z] 3)).alloc (.cells #[.string nm] 9)).heap.size := Nat.le_trans EK (Up.alloc _ _).size
    refine hK.out _ _ (fun _ => yA.out.low.block) (fun _ => ?_)
    try simp only [aq, ah, au]
    have qY := aT (Wd.alloc (.cells #[.int .i64 z] 3)) #[.string nm] 9 0
    have kQ := (Up.alloc (Wd.alloc (.cells #[.int .i64 z] 3)) (.cells #[.string nm] 9)).cell (aT Wd #[.int .i64 z] 3 0)
    rw [World.size_alloc] at qY
    refine bE.step (i := 6) rfl (by kernel_rfl) (fun K' hK => ?_)
    refine lN (by rfl) _ _ _ (by rfl) (B + 5) 3 _ 8 Tryz.underlying26 Tryz.lK (by rfl) (by decide) (by rfl) yA.out.cV (.int .i64 z) Wd.heap.size (by rfl) kQ (by rfl) (by rw [List.length_map, nG.out.1]; omega) Aa ?_
    intro g1 Pq kA sO kJ hrg1 _
    have ve : Hid (ku (B + 5) w1 kA _ _ _ _) := yA.out.AW Aa sO kJ (hrg1.imp id (fun e => Nat.le_of_eq e.symm))
    have yB : B + 5 ≤ kA.heap.size := Nat.le_trans Aa kJ.size
    have sw : kA.cell? ⟨Wd.heap.size + 1, 0, none⟩ = some (.string nm) := by
     rw [kJ.cell_far ⟨Wd.heap.size + 1, 0, none⟩ (by simp) (fun e => absurd (aF UE.out.cV e.symm).2 (by show ¬ (Wd.heap.size + 1 < Wd.heap.size); omega))]; exact qY
    refine hK.out _ _ (fun _ => ve.out.low.block) (fun _ => ?_)
    try simp only [Act.put, aq, ah, au]
    refine bE.free (i := 15) (v := ?gv15b) rfl (by kernel_rfl) (fun _ _ _ h => h) (by rfl) (fun _ => rfl) (fun w => ?M0) (fun _ => ve.out.low.block) ?gr15b
    case M0 =>
     go_simp
     try with_reducible rfl
    try simp only [Act.put, aq, ah, au]
    refine bE.step (i := 14) rfl (by kernel_rfl) (fun K' hK => ?_)
    refine lN (by rfl) _ _ _ (by rfl) (B + 5) 9 _ 16 Tryz.underlying22 Tryz.Dt (by rfl) (by decide) (by rfl) ve.out.dN (.string nm) (Wd.heap.size + 1) (by rfl) sw (by rfl) (by rw [List.length_map, nG.out.2]; omega) yB ?_
    intro g2 Pr fo sP od hrg2 _
    have nH : Hid (ku (B + 5) w1 fo _ _ _ _) := ve.out.AX yB sP od (hrg2.imp id (fun e => Nat.le_of_eq e.symm))
    have hSf : B + 5 ≤ fo.heap.size := Nat.le_trans yB od.size
    refine hK.out _ _ (fun _ => nH.out.low.block) (fun _ => ?_)
    try simp only [Act.put, aq, ah, au]
    have B6 : fo.cell? ⟨B + 1, 0, none⟩ = some (.slice pp pre.length pc) := (iV.out fo nH.out.low.block).1
    have og : fo.cell? ⟨B + 1, 1, none⟩ = some (.slice np pre.length nc) := (iV.out fo nH.out.low.block).2.1
    have xH : fo.frozen? ⟨B + 1, 0, none⟩ = false := Le.out fo nH.out.low.block 0
    have Hv : fo.frozen? ⟨B + 1, 1, none⟩ = false := Le.out fo nH.out.low.block 1
    have mj := aa (MX.out fo _ _ nH.out)
    refine bE.step (i := 16) rfl (by kernel_rfl) (fun K' hK => ?_)
    go_simp
    refine hK.out _ _ (aJ (by kernel_rfl)) (fun _ => ?_)
    try simp only [aq, ah, au]
    refine bE.free (i := 17) (v := ?gv17b) rfl (by kernel_rfl) (fun _ _ _ h => h) (by rfl) (fun _ => rfl) (fun w => ?gy17b) (aJ (by kernel_rfl)) ?gr17b
    case gy17b =>
     go_simp
     try with_reducible rfl
    try simp only [Act.put, aq, ah, au]
    refine bE.step (i := 18) rfl (by kernel_rfl) (fun K' hK => ?_)
    go_simp
    refine hK.out _ _ (aJ (by kernel_rfl)) (fun _ => ?_)
    refine bE.done (by kernel_rfl) ?_
    gi_wp2
    have dG := mj.out
    simp only [List.length_map] at dG
    exact dG
  ·go_simp
   have Hu : Hid (ku (B + 5) w1 (Wd.alloc (.cells #[.string nm] 9)) _ _ _ _) := UE.out.up (Up.alloc _ _) UF
   have EK : B + 5 ≤ (Wd.alloc (.cells #[.string nm] 9)).heap.size := Nat.le_trans UF (Up.alloc _ _).size
   refine hK.out _ _ (fun _ => Hu.out.low.block) (fun _ => ?_)
   try simp only [aq, ah, au]
   refine bE.step (i := 5) rfl (by kernel_rfl) (fun K' hK => ?_)
   go_simp
   have yA : Hid (ku (B + 5) w1 ((Wd.alloc (.cells #[.string nm] 9)).alloc (.cells #[.int .i64 z] 3)) _ _ _ _) := Hu.out.up (Up.alloc _ _) EK
   have Aa : B + 5 ≤ ((Wd.alloc (.cells #[.string nm] 9)).alloc (.cells #[.int .i64 z] 3)).heap.size := Nat.le_trans EK (Up.alloc _ _).size
   refine hK.out _ _ (fun _ => yA.out.low.block) (fun _ => ?_)
   try simp only [aq, ah, au]
   have kQ := aT (Wd.alloc (.cells #[.string nm] 9)) #[.int .i64 z] 3 0
   have qY := (Up.alloc (Wd.alloc (.cells #[.string nm] 9)) (.cells #[.int .i64 z] 3)).cell (aT Wd #[.string nm] 9 0)
   rw [World.size_alloc] at kQ
   refine bE.step (i := 6) rfl (by kernel_rfl) (fun K' hK => ?_)
   refine lN (by rfl) _ _ _ (by rfl) (B + 5) 3 _ 8 Tryz.underlying26 Tryz.lK (by rfl) (by decide) (by rfl) yA.out.cV (.int .i64 z) (Wd.heap.size + 1) (by rfl) kQ (by rfl) (by rw [List.length_map, nG.out.1]; omega) Aa ?_
   intro g1 Pq kA sO kJ hrg1 _
   have ve : Hid (ku (B + 5) w1 kA _ _ _ _) := yA.out.AW Aa sO kJ (hrg1.imp id (fun e => Nat.le_of_eq e.symm))
   have yB : B + 5 ≤ kA.heap.size := Nat.le_trans Aa kJ.size
   have sw : kA.cell? ⟨Wd.heap.size, 0, none⟩ = some (.string nm) := by
    rw [kJ.cell_far ⟨Wd.heap.size, 0, none⟩ (by simp; omega) (fun e => absurd (aF UE.out.cV e.symm).2 (by show ¬ (Wd.heap.size < Wd.heap.size); omega))]; exact qY
   refine hK.out _ _ (fun _ => ve.out.low.block) (fun _ => ?_)
   try simp only [Act.put, aq, ah, au]
   refine bE.free (i := 15) (v := ?gv15c) rfl (by kernel_rfl) (fun _ _ _ h => h) (by rfl) (fun _ => rfl) (fun w => ?M3) (fun _ => ve.out.low.block) ?gr15c
   case M3 =>
    go_simp
    try with_reducible rfl
   try simp only [Act.put, aq, ah, au]
   refine bE.step (i := 14) rfl (by kernel_rfl) (fun K' hK => ?_)
   refine lN (by rfl) _ _ _ (by rfl) (B + 5) 9 _ 16 Tryz.underlying22 Tryz.Dt (by rfl) (by decide) (by rfl) ve.out.dN (.string nm) Wd.heap.size (by rfl) sw (by rfl) (by rw [List.length_map, nG.out.2]; omega) yB ?_
   intro g2 Pr fo sP od hrg2 _
   have nH : Hid (ku (B + 5) w1 fo _ _ _ _) := ve.out.AX yB sP od (hrg2.imp id (fun e => Nat.le_of_eq e.symm))
   have hSf : B + 5 ≤ fo.heap.size := Nat.le_trans yB od.size
   refine hK.out _ _ (fun _ => nH.out.low.block) (fun _ => ?_)
   try simp only [Act.put, aq, ah, au]
   have B6 : fo.cell? ⟨B + 1, 0, none⟩ = some (.slice pp pre.length pc) := (iV.out fo nH.out.low.block).1
   have og : fo.cell? ⟨B + 1, 1, none⟩ = some (.slice np pre.length nc) := (iV.out fo nH.out.low.block).2.1
   have xH : fo.frozen? ⟨B + 1, 0, none⟩ = false := Le.out fo nH.out.low.block 0
   have Hv : fo.frozen? ⟨B + 1, 1, none⟩ = false := Le.out fo nH.out.low.block 1
   have mj := aa (MX.out fo _ _ nH.out)
   refine bE.step (i := 16) rfl (by kernel_rfl) (fun K' hK => ?_)
   go_simp
   refine hK.out _ _ (aJ (by kernel_rfl)) (fun _ => ?_)
   try simp only [aq, ah, au]
   refine bE.free (i := 17) (v := ?gv17c) rfl (by kernel_rfl) (fun _ _ _ h => h) (by rfl) (fun _ => rfl) (fun w => ?gy17c) (aJ (by kernel_rfl)) ?gr17c
   case gy17c =>
    go_simp
    try with_reducible rfl
   try simp only [Act.put, aq, ah, au]
   refine bE.step (i := 18) rfl (by kernel_rfl) (fun K' hK => ?_)
   go_simp
   refine hK.out _ _ (aJ (by kernel_rfl)) (fun _ => ?_)
   refine bE.done (by kernel_rfl) ?_
   gi_wp2
   have dG := mj.out
   simp only [List.length_map] at dG
   exact dG
 ·rintro D xs W hD hS ⟨hks, kL, Pv, Nv, jD, u7, hmp, Ld⟩ hK
  have hb0 : W.cell? ⟨B + 1, 0, none⟩ = some Pv := by simp [World.cell?, jD]
  have hb1 : W.cell? ⟨B + 1, 1, none⟩ = some Nv := by simp [World.cell?, jD]
  have Ab : W.heap[B]? = some (Obj.cells #[.slice none 0 0, .slice none 0 0] 39 (0, 0)) := (hks B ⟨by omega, by omega, by omega⟩).trans hr6
  have hok : rC n xs.length (cI F (cM xs)) := MU xs
  obtain ⟨pp, pc, rfl, _⟩ := u7.cV.form (n := xs.length) (by rw [List.length_map]; exact hok.lp)
  obtain ⟨np, nc, rfl, _⟩ := u7.dN.form (n := xs.length) (by rw [List.length_map]; exact hok.ln)
  have kN : W.cell? ⟨B, 0, none⟩ = some (.slice none 0 0) := by simp [World.cell?, Ab]
  have hr1 : W.cell? ⟨B, 1, none⟩ = some (.slice none 0 0) := by simp [World.cell?, Ab]
  have B7 : W.frozen? ⟨B, 0, none⟩ = false := by simp [World.frozen?, Ab]
  have vg : W.frozen? ⟨B, 1, none⟩ = false := by simp [World.frozen?, Ab]
  gi_wp2_with fail
  have Y2 : D ≠ B := by omega
  have hK2 : ((W.setCell ⟨B, 0, none⟩ (.slice pp xs.length pc)).setCell ⟨B, 1, none⟩ (.slice np xs.length nc)).heap[D]? = some (.deferred (some [])) := by
   rw [blk_setCell_other _ _ _ _ Y2, blk_setCell_other _ _ _ _ Y2]; exact hK
  refine ⟨by simp, .inl ⟨_, _, rfl, run_takeDeferred hK2, ?_⟩⟩
  have hheap : ((W.setCell ⟨B, 0, none⟩ (.slice pp xs.length pc)).setCell ⟨B, 1, none⟩ (.slice np xs.length nc)).heap[B]? = some (Obj.cells #[.slice pp xs.length pc, .slice np xs.length nc] 39 (0, 0)) := by
   simp [World.setCell, Array.getElem?_modify, Ab]
  have hq : ∀ b, b ≠ D → (((W.setCell ⟨B, 0, none⟩ (.slice pp xs.length pc)).setCell ⟨B, 1, none⟩ (.slice np xs.length nc)).putObj D (.deferred none)).heap[b]? = ((W.setCell ⟨B, 0, none⟩ (.slice pp xs.length pc)).setCell ⟨B, 1, none⟩ (.slice np xs.length nc)).heap[b]? := fun b hb => World.putObj_heap_other hb
  have Pt := (hq B (Ne.symm Y2)).trans hheap
  have Y3 : ∀ b, b ≠ B → ((W.setCell ⟨B, 0, none⟩ (.slice pp xs.length pc)).setCell ⟨B, 1, none⟩ (.slice np xs.length nc)).heap[b]? = W.heap[b]? := fun b hb => by rw [blk_setCell_other _ _ _ _ hb, blk_setCell_other _ _ _ _ hb]
  have hsz : (((W.setCell ⟨B, 0, none⟩ (.slice pp xs.length pc)).setCell ⟨B, 1, none⟩ (.slice np xs.length nc)).putObj D (.deferred none)).heap.size = W.heap.size := by simp [World.size_setCell]
  have hos : (((W.setCell ⟨B, 0, none⟩ (.slice pp xs.length pc)).setCell ⟨B, 1, none⟩ (.slice np xs.length nc)).putObj D (.deferred none)).os = W.os ∧ (((W.setCell ⟨B, 0, none⟩ (.slice pp xs.length pc)).setCell ⟨B, 1, none⟩ (.slice np xs.length nc)).putObj D (.deferred none)).tape = W.tape ∧ (((W.setCell ⟨B, 0, none⟩ (.slice pp xs.length pc)).setCell ⟨B, 1, none⟩ (.slice np xs.length nc)).putObj D (.deferred none)).output = W.output := ⟨rfl, rfl, rfl⟩
  generalize ((W.setCell ⟨B, 0, none⟩ (.slice pp xs.length pc)).setCell ⟨B, 1, none⟩ (.slice np xs.length nc)).putObj D (.deferred none) = We at *
  have hc0 : We.cell? ⟨B, 0, none⟩ = some (.slice pp xs.length pc) := by simp [World.cell?, Pt]
  have hc1 : We.cell? ⟨B, 1, none⟩ = some (.slice np xs.length nc) := by simp [World.cell?, Pt]
  have hown : ∀ {e : TypeId} {v : Value} {vs : List Value}, aA (B + 5) e W v vs → aA (B + 5) e We v vs := fun ho => ho.same fun b hb => by
   have h1 := (aF ho hb).1
   obtain ⟨c, hc⟩ := ho.typed hb
   have hbD : b ≠ D := fun e => by subst e; rw [hK] at hc; cases hc
   rw [hq b hbD, Y3 b (by omega)]
  refine ⟨.agg #[.slice pp xs.length pc, .slice np xs.length nc], by simp [results, Tryz.results164, go_sem, hc0, hc1], ?_, _, rfl, .slice pp xs.length pc, .slice np xs.length nc, rfl, ?_, ?_⟩
  ·have hX := HX.out
   have hBw := HB.out
   refine ⟨hos.1.trans (kL.os.trans hX.os), hos.2.1.trans (kL.tape.trans hX.tape), hos.2.2.trans (kL.output.trans hX.output), ?_, fun b hb => ?_⟩
   ·rw [hsz]; have h1 := hX.size; have h2 := kL.size; omega
   ·rw [hBw] at hb
    rw [hq b (by omega), Y3 b (by omega), kL.block b (by omega)]
    exact Below.block hX b (by rw [hBw]; exact hb)
  ·show aB (fun b => w.heap.size ≤ b) We _ (cI F (dR F rk i none)).ps
   rw [← hS, HB.out]
   exact (hown u7.cV).ints.sub fun b (hb : B + 5 ≤ b) _ => (by omega : B ≤ b)
  ·show av (fun b => w.heap.size ≤ b) We _ (cI F (dR F rk i none)).ns
   rw [← hS, HB.out]
   exact (hown u7.dN).strs.sub fun b (hb : B + 5 ≤ b) _ => (by omega : B ≤ b)
 ·rintro D c pre W _ _ h _
  exact h.elim
end Go.Proofs.YteegefnjnikngaaGreat
