/- The contract of phylotree.tree. -/
import Derived.RangeFuncWrites
import Derived.StillTail
import Derived.Test.YthgabkgmkolobaaGreatQ12
import Derived.Test.YthgabkgmkolobaaGreatQ8
import Derived.Test.YthgabkgmkolobaaGreatQ3
import Derived.Test.YthgabkgmkolobaaGreatQ1
set_option maxRecDepth 100000
namespace Go.Proofs.YthgabkgmkolobaaGreat
open Go.RowKit Go.Shelf Go.Deep
attribute [local go_sem] Oper.semAt_some
theorem Tryz.CU : (Tryz.prog.info? 9).map (fun i => (i.zero, i.size, i.bytes)) = some (some (.string ⟨#[]⟩), 1, 16) := by kernel_rfl
def kP (l : List (Option Nat × Int)) (k : Option Nat) (v : Int) : List (Option Nat × Int) := if (l.lookup k).isNone then l ++ [(k, v)] else l.map fun x => if x.1 = k then (k, v) else x
structure wX where
 mp : List (Option Nat × Int)
 ps : List Int
 ns : List ByteArray
def nG (F : aT) (s : wX) (x : Nat × Option Nat) : wX :=
 ⟨kP s.mp (some x.1) s.ps.length, s.ps ++ [((kP s.mp (some x.1) s.ps.length).lookup x.2).getD 0], s.ns ++ [F.nm x.1]⟩
def CV : wX := ⟨[(none, -1)], [], []⟩
def cB (F : aT) (l : List (Nat × Option Nat)) : wX := l.foldl (nG F) CV
theorem xZ (F : aT) (l : List (Nat × Option Nat)) (x : Nat × Option Nat) : cB F (l ++ [x]) = nG F (cB F l) x := by simp [cB]
def fJ (F : aT) (rk : Nat → Nat) (i : Nat) : ay := ⟨(cB F (dN F rk i none)).ps, (cB F (dN F rk i none)).ns⟩
def lZ (A : Nat → Nat) (l : List (Option Nat × Int)) : List (Option Nat × Value) := l.map fun x => (x.1.map A, .int .i64 x.2)
def uy (n : Nat) (l : List (Option Nat × Int)) : Prop := ∀ x ∈ l, ∀ k, x.1 = some k → k < n
theorem map_inj {A : Nat → Nat} {n : Nat} (hinj : ∀ i j, i < n → j < n → A i = A j → i = j) {x y : Option Nat} (hx : ∀ k, x = some k → k < n) (hy : ∀ k, y = some k → k < n) (h : x.map A = y.map A) : x = y := by
 cases x with
 | none => cases y with
  | none => rfl
  | some b => cases h
 | some a => cases y with
  | none => cases h
  | some b =>
   simp only [Option.map_some, Option.some.injEq] at h
   rw [hinj a b (hx a rfl) (hy b rfl) h]
theorem zU {A : Nat → Nat} {n : Nat} (hinj : ∀ i j, i < n → j < n → A i = A j → i = j) {k : Option Nat} (hk : ∀ j, k = some j → j < n) : ∀ {l : List (Option Nat × Int)}, uy n l → (lZ A l).lookup (k.map A) = (l.lookup k).map (Value.int .i64) := by
 intro l
 induction l with
 | nil => intro _; rfl
 | cons x l ih =>
  intro hl
  obtain ⟨x1, x2⟩ := x
  have hl2 : uy n l := fun z hz => hl z (by simp [hz])
  show List.lookup (k.map A) ((x1.map A, Value.int .i64 x2) :: lZ A l) = _
  rw [List.lookup_cons, List.lookup_cons]
  by_cases h : k = x1
  ·subst h; simp
  ·have h1 : (k == x1) = false := by simpa using h
   have h2 : (k.map A == x1.map A) = false := by
    simp only [beq_eq_false_iff_ne, ne_eq]
    exact fun e => h (map_inj hinj hk (fun j hj => hl (x1, x2) (by simp) j hj) e)
   rw [h1, h2]; exact ih hl2
theorem RO {A : Nat → Nat} {n : Nat} (hinj : ∀ i j, i < n → j < n → A i = A j → i = j) {k : Option Nat} (hk : ∀ j, k = some j → j < n) {l : List (Option Nat × Int)} (hl : uy n l) (v : Int) : tU (lZ A l) (k.map A) (.int .i64 v) = lZ A (kP l k v) := by
 unfold tU kP
 rw [zU hinj hk hl]
 cases h : l.lookup k with
 | none => simp [lZ]
 | some y =>
  simp only [Option.map_some, Option.isNone_some, Bool.false_eq_true, if_false]
  unfold lZ
  rw [List.map_map, List.map_map]
  refine List.map_congr_left fun x hx => ?_
  show (if x.1.map A = k.map A then (k.map A, Value.int .i64 v) else (x.1.map A, Value.int .i64 x.2)) = ((if x.1 = k then (k, v) else x).1.map A, Value.int .i64 (if x.1 = k then (k, v) else x).2)
  by_cases e : x.1 = k
  ·rw [if_pos (by rw [e]), if_pos e]
  ·rw [if_neg (fun e2 => e (map_inj hinj (fun j hj => hl x hx j hj) hk e2)), if_neg e]
theorem OL {n : Nat} {l : List (Option Nat × Int)} (hl : uy n l) {k : Option Nat} (hk : ∀ j, k = some j → j < n) (v : Int) : uy n (kP l k v) := by
 intro x hx
 unfold kP at hx
 split at hx
 ·rcases List.mem_append.1 hx with h | h
  ·exact hl x h
  ·have : x = (k, v) := by simpa using h
   subst this; exact hk
 ·obtain ⟨y, hy, e⟩ := List.mem_map.1 hx
  split at e
  ·subst e; exact hk
  ·subst e; exact hl y hy
structure qM (n m : Nat) (s : wX) : Prop where
 keys : uy n s.mp
 lp : s.ps.length = m
 ln : s.ns.length = m
theorem qM.step {n m : Nat} {s : wX} {F : aT} (h : qM n m s) (x : lV n) : qM n (m + 1) (nG F s x.1) :=
 ⟨OL h.keys (fun j hj => by cases hj; exact x.2.1) _, by show (s.ps ++ [_]).length = _; rw [List.length_append, h.lp]; rfl, by show (s.ns ++ [_]).length = _; rw [List.length_append, h.ln]; rfl⟩
theorem Mo {n : Nat} {F : aT} : ∀ (l : List (lV n)) (m : Nat) (s : wX), qM n m s → qM n (m + l.length) ((cE l).foldl (nG F) s) := by
 intro l
 induction l with
 | nil => intro m s h; exact h
 | cons x l ih =>
  intro m s h
  have h2 := ih (m + 1) _ (h.step (F := F) x)
  rw [show m + (x :: l).length = m + 1 + l.length by simp; omega]
  exact h2
theorem Mp {n : Nat} {F : aT} (l : List (lV n)) : qM n l.length (cB F (cE l)) := by
 have h := Mo (F := F) l 0 CV ⟨fun x hx k hk => (by
  have : x = (none, -1) := by simpa [CV] using hx
  subst this; cases hk), rfl, rfl⟩
 rw [Nat.zero_add] at h; exact h
def OM (w : World) (t : ay) (e : Ending) (w' : World) : Prop := Up w w' ∧ ∃ v, e = .returned v ∧ aA (fun b => w.heap.size ≤ b) w' v t
structure jP (B0 : Nat) (w1 W : World) (Pv Nv : Value) (ps : List Int) (ns : List ByteArray) : Prop where
 cR : aC B0 3 W Pv (ps.map (Value.int .i64))
 dF : aC B0 9 W Nv (ns.map Value.string)
 apart : ∀ b, Pv.ownBlock = some b → Nv.ownBlock ≠ some b
 low : Below B0 w1 W
 fns : ∀ (b : Nat) (c : Array Value) (z : Nat × Nat), w1.heap[b]? = some (Obj.cells c 258 z) → W.heap[b]? = w1.heap[b]?
 far : KeepsFrom B0 w1 W
section
variable {B0 : Nat} {w1 W W' : World} {Pv Nv : Value} {ps : List Int} {ns : List ByteArray}
theorem aC.typed {base : Nat} {e : TypeId} {w : World} {v : Value} {vs : List Value} (h : aC base e w v vs) {b : Nat} (hb : v.ownBlock = some b) : ∃ c, w.heap[b]? = some (Obj.cells c e (0, 0)) := by
 obtain ⟨_, ⟨rfl, _⟩ | ⟨g, cap, cur, rfl, _, hc, _⟩⟩ := h
 ·cases hb
 ·injection hb with hb; subst hb; exact ⟨cur, hc⟩
theorem jP.up (h : jP B0 w1 W Pv Nv ps ns) (hu : Up W W') (hB : B0 ≤ W.heap.size) : jP B0 w1 W' Pv Nv ps ns :=
 ⟨h.cR.same fun b hb => Below.block hu b (aF h.cR hb).2, h.dF.same fun b hb => Below.block hu b (aF h.dF hb).2, h.apart, Below.trans h.low (Below.mono hu hB), fun b c z hb => by
  have h1 := h.fns b c z hb
  rw [← h1]
  exact Below.block hu b (by rw [hb] at h1; exact (Array.getElem?_eq_some_iff.1 h1).1), h.far.trans ⟨hu.size, fun k o _ hk _ => (Below.block hu k (Array.getElem?_eq_some_iff.1 hk).1).trans hk⟩⟩
theorem jP.AE (h : jP B0 w1 W Pv Nv ps ns) (hB : B0 ≤ W.heap.size) {g cap k : Nat} {u : Int} (ho : aC B0 3 W' (.slice (some ⟨g, 0, none⟩) k cap) (ps.map (Value.int .i64) ++ [.int .i64 u])) (hg : W.grownBy W' Pv.ownBlock) (ep : Pv.ownBlock = some g ∨ W.heap.size ≤ g) :
  jP B0 w1 W' (.slice (some ⟨g, 0, none⟩) k cap) Nv (ps ++ [u]) ns := by
 refine ⟨by rw [List.map_append]; exact ho, h.dF.same fun b hb => hg.block b (aF h.dF hb).2 (fun e => h.apart b e.symm hb), fun b hb hb2 => ?_, Below.trans h.low (h.cR.dy hg hB), fun b c z hb => ?_, h.far.trans ⟨hg.size, fun k o _ hk hc => (hg.block k (Array.getElem?_eq_some_iff.1 hk).1 (fun e => ?_)).trans hk⟩⟩
 ·injection hb with hb
  have hb : g = b := hb
  subst hb
  rcases ep with h1 | h1
  ·exact h.apart g h1 hb2
  ·have := (aF h.dF hb2).2; omega
 ·have h1 := h.fns b c z hb
  rw [← h1]
  refine hg.block b (by rw [hb] at h1; exact (Array.getElem?_eq_some_iff.1 h1).1) (fun e => ?_)
  obtain ⟨c2, h2⟩ := h.cR.typed e.symm
  rw [h1, hb] at h2
  injection h2 with h2
  injection h2 with _ h2 _
  cases h2
 ·obtain ⟨c2, h2⟩ := h.cR.typed e.symm
  rw [h2] at hk; injection hk with hk; subst hk; cases hc
theorem jP.AG (h : jP B0 w1 W Pv Nv ps ns) (hB : B0 ≤ W.heap.size) {g cap k : Nat} {u : ByteArray} (ho : aC B0 9 W' (.slice (some ⟨g, 0, none⟩) k cap) (ns.map Value.string ++ [.string u])) (hg : W.grownBy W' Nv.ownBlock) (ep : Nv.ownBlock = some g ∨ W.heap.size ≤ g) :
  jP B0 w1 W' Pv (.slice (some ⟨g, 0, none⟩) k cap) ps (ns ++ [u]) := by
 refine ⟨h.cR.same fun b hb => hg.block b (aF h.cR hb).2 (fun e => h.apart b hb e.symm), by rw [List.map_append]; exact ho, fun b hb hb2 => ?_, Below.trans h.low (h.dF.dy hg hB), fun b c z hb => ?_, h.far.trans ⟨hg.size, fun k o _ hk hc => (hg.block k (Array.getElem?_eq_some_iff.1 hk).1 (fun e => ?_)).trans hk⟩⟩
 ·injection hb2 with hb2
  have hb2 : g = b := hb2
  subst hb2
  rcases ep with h1 | h1
  ·exact h.apart g hb h1
  ·have := (aF h.cR hb).2; omega
 ·have h1 := h.fns b c z hb
  rw [← h1]
  refine hg.block b (by rw [hb] at h1; exact (Array.getElem?_eq_some_iff.1 h1).1) (fun e => ?_)
  obtain ⟨c2, h2⟩ := h.dF.typed e.symm
  rw [h1, hb] at h2
  injection h2 with h2
  injection h2 with _ h2 _
  cases h2
 ·obtain ⟨c2, h2⟩ := h.dF.typed e.symm
  rw [h2] at hk; injection hk with hk; subst hk; cases hc
end
def Ea (n B0 Bt m : Nat) (A : Nat → Nat) (F : aT) (T : Nat → Prop) (w6 : World) (pre : List (lV n)) (W : World) : Prop :=
 KS T w6 W ∧ Below (Bt) w6 W ∧ ∃ Pv Nv, W.heap[Bt]? = some (Obj.cells #[Pv, Nv] 39 (0, 0)) ∧ jP B0 W W Pv Nv (cB F (cE pre)).ps (cB F (cE pre)).ns ∧ je W m (lZ A (cB F (cE pre)).mp) ∧ vJ (lZ A (cB F (cE pre)).mp)
theorem Ea.own {n B : Nat} {A : Nat → Nat} {F : aT} {w6 : World} (hz : w6.heap.size = B + 5) : OwnFrom w6.heap.size (Ea n (B + 5) (B + 1) (B + 1 + 1) A F (fun b => b < B + 5 ∧ b ≠ B + 1 ∧ b ≠ B + 1 + 1) w6) := by
 intro s X Y row hs hg hr
 obtain ⟨hk, hb, Pv, Nv, jf, hT, hm, hu⟩ := hs
 have hsz : B + 5 ≤ X.heap.size := by have := hb.size; omega
 have AH : ∀ b, b < B + 5 → Y.heap[b]? = X.heap[b]? := fun b hb2 => hg.block b (by omega) (fun e => by obtain ⟨h1, _⟩ := hr b e.symm; omega)
 have hcell : ∀ (b : Nat) (c : Array Value) (e : TypeId) (z : Nat × Nat), X.heap[b]? = some (Obj.cells c e z) → Y.heap[b]? = X.heap[b]? := fun b c e z hc => hg.block b (Array.getElem?_eq_some_iff.1 hc).1 (fun e2 => by
  obtain ⟨_, o, h1, h2⟩ := hr b e2.symm
  rw [hc] at h1; injection h1 with h1; subst h1; cases h2)
 refine ⟨fun b hb2 => (AH b hb2.1).trans (hk b hb2), ⟨hg.os.trans hb.os, hg.tape.trans hb.tape, hg.output.trans hb.output, Nat.le_trans hb.size hg.size, fun b hb2 => (AH b (by omega)).trans (hb.block b hb2)⟩, Pv, Nv, (AH _ (by omega)).trans jf, ?_, hm.of_block (AH _ (by omega)), hu⟩
 refine ⟨hT.cR.same fun b hb2 => ?_, hT.dF.same fun b hb2 => ?_, hT.apart, Below.refl _ _, fun _ _ _ _ => rfl, KeepsFrom.refl _ _⟩
 ·obtain ⟨c, hc⟩ := hT.cR.typed hb2; exact hcell _ _ _ _ hc
 ·obtain ⟨c, hc⟩ := hT.dF.typed hb2; exact hcell _ _ _ _ hc
theorem Ea.next {n B : Nat} {A : Nat → Nat} {F : aT} {w6 W w1 We : World} (hz : w6.heap.size = B + 5) {pre : List (lV n)} {x : lV n} (hks : KS (fun b => b < B + 5 ∧ b ≠ B + 1 ∧ b ≠ B + 1 + 1) w6 W) (kj : Below (B + 1) w6 W)
  {P0 N0 : Value} (jf : W.heap[B + 1]? = some (Obj.cells #[P0, N0] 39 (0, 0))) {es : List (Option Nat × Value)} (hmp0 : je W (B + 1 + 1) es)
  (CW : je w1 (B + 1 + 1) (lZ A (cB F (cE (pre ++ [x]))).mp)) (KX : vJ (lZ A (cB F (cE (pre ++ [x]))).mp)) (hs1 : w1.heap.size = W.heap.size) (UL : w1.os = W.os) (Mq : w1.tape = W.tape) (Mr : w1.output = W.output) (hb1 : ∀ j, j ≠ B + 1 + 1 → w1.heap[j]? = W.heap[j]?)
  {Pv Nv : Value} (hT : jP (B + 5) w1 We Pv Nv (cB F (cE (pre ++ [x]))).ps (cB F (cE (pre ++ [x]))).ns) :
  KeepsFrom w6.heap.size W ((We.setCell ⟨B + 1, 0, none⟩ Pv).setCell ⟨B + 1, 1, none⟩ Nv) ∧ KN (fun b => b < B + 5 ∧ b ≠ B + 1 ∧ b ≠ B + 1 + 1) W ((We.setCell ⟨B + 1, 0, none⟩ Pv).setCell ⟨B + 1, 1, none⟩ Nv) ∧
   Ea n (B + 5) (B + 1) (B + 1 + 1) A F (fun b => b < B + 5 ∧ b ≠ B + 1 ∧ b ≠ B + 1 + 1) w6 (pre ++ [x]) ((We.setCell ⟨B + 1, 0, none⟩ Pv).setCell ⟨B + 1, 1, none⟩ Nv) := by
 have cw : ∀ b, b ≠ B + 1 → ((We.setCell ⟨B + 1, 0, none⟩ Pv).setCell ⟨B + 1, 1, none⟩ Nv).heap[b]? = We.heap[b]? := fun b hb => by rw [blk_setCell_other _ _ _ _ hb, blk_setCell_other _ _ _ _ hb]
 have hsz : ((We.setCell ⟨B + 1, 0, none⟩ Pv).setCell ⟨B + 1, 1, none⟩ Nv).heap.size = We.heap.size := by simp [World.size_setCell]
 have x4 : We.heap[B + 1]? = some (Obj.cells #[P0, N0] 39 (0, 0)) := (hT.low.block (B + 1) (by omega)).trans ((hb1 _ (by omega)).trans jf)
 have hbf : ((We.setCell ⟨B + 1, 0, none⟩ Pv).setCell ⟨B + 1, 1, none⟩ Nv).heap[B + 1]? = some (Obj.cells #[Pv, Nv] 39 (0, 0)) := by
  simp [World.setCell, Array.getElem?_modify, x4]
 have Ye : KS (fun b => b < B + 5 ∧ b ≠ B + 1 ∧ b ≠ B + 1 + 1) W ((We.setCell ⟨B + 1, 0, none⟩ Pv).setCell ⟨B + 1, 1, none⟩ Nv) := fun b hb => (cw b hb.2.1).trans ((hT.low.block b hb.1).trans (hb1 b hb.2.2))
 refine ⟨⟨?_, fun k o hk ho hc => ?_⟩, ⟨Ye, fun b c z hb => ?_⟩, hks.trans Ye, ⟨hT.low.os.trans (UL.trans kj.os), hT.low.tape.trans (Mq.trans kj.tape), hT.low.output.trans (Mr.trans kj.output), ?_, fun b hb => (Ye b ⟨by omega, by omega, by omega⟩).trans (kj.block b hb)⟩, Pv, Nv, hbf, ⟨hT.cR.same fun b hb => cw b (by have := (aF hT.cR hb).1; omega), hT.dF.same fun b hb => cw b (by have := (aF hT.dF hb).1; omega), hT.apart, Below.refl _ _, fun _ _ _ _ => rfl, KeepsFrom.refl _ _⟩, CW.of_block ((cw _ (by omega)).trans (hT.low.block _ (by omega))), KX⟩
 ·rw [hsz, ← hs1]; exact hT.low.size
 ·rw [cw k (by omega)]
  exact hT.far.same k o (by omega) ((hb1 k (by omega)).trans ho) hc
 ·have hne : b ≠ B + 1 + 1 := fun e => by
   subst e
   obtain ⟨es', ck, h1, _⟩ := hmp0
   rw [h1] at hb; cases hb
  have RP : b ≠ B + 1 := fun e => by
   subst e
   rw [jf] at hb
   injection hb with hb
   injection hb with _ hb _
   cases hb
  rw [cw b RP, hT.fns b c z (by rw [hb1 b hne]; exact hb), hb1 b hne]
 ·rw [hsz]; have h1 := hT.low.size; have h2 := kj.size; omega
set_option maxHeartbeats 4000000 in
theorem OO {n base : Nat} {A : Nat → Nat} {kv : Nat → Value} {F : aT} {rk : Nat → Nat} (hwf : Wf F n rk) (hlen : ∀ i, i < n → (F.kids i).length ≤ 1000) (w : World) (i : Nat) (hi : i < n) (hF : bq base n A kv F w) (hN : (dN F rk i none).length ≤ 100000) :
  Calls Tryz.prog 165 #[.pointer (some ⟨A i, 0, none⟩)] w (OM w (fJ F rk i)) := by
 refine (callsIn_wide (n := 9)).1 ?_
 refine callsIn_of_wp_marks Tryz.func165 rfl trivial ?_ rfl
 simp only [Tryz.ntmps165, List.size_toArray, List.length_cons, List.length_nil, Nat.reduceAdd, Nat.reduceSub, Array.replicate_succ, Array.replicate_zero, List.push_toArray, List.append_toArray, List.nil_append, List.cons_append]
 have hmm := fun W => run_makeMap (P := Tryz.prog) 219 W
 obtain ⟨w3, hw3⟩ : ∃ w3, w3 = ((w.alloc (.cells #[.slice none 0 0, .slice none 0 0] 39)).alloc (.cells #[.slice none 0 0, .slice none 0 0] 39)).alloc (.map #[] 0) := ⟨_, rfl⟩
 have bX : Up w w3 := by rw [hw3]; exact ((Up.alloc _ _).trans (Up.alloc _ _)).trans (Up.alloc _ _)
 have hz3 : w3.heap.size = w.heap.size + 3 := by rw [hw3]; simp
 have hp3 : je w3 (w.heap.size + 1 + 1) [] := ⟨#[], 0, by
  rw [hw3]
  have h := blk_alloc_new ((w.alloc (.cells #[.slice none 0 0, .slice none 0 0] 39)).alloc (.cells #[.slice none 0 0, .slice none 0 0] 39)) (.map #[] 0)
  simp only [World.size_alloc] at h; exact h, rfl⟩
 have ht3 : w3.heap[w.heap.size + 1]? = some (Obj.cells #[.slice none 0 0, .slice none 0 0] 39 (0, 0)) := by
  rw [hw3, blk_alloc_lt _ _ _ (by simp)]
  have h := blk_alloc_new (w.alloc (.cells #[.slice none 0 0, .slice none 0 0] 39)) (.cells #[.slice none 0 0, .slice none 0 0] 39)
  rw [World.size_alloc] at h; exact h
 have hr3 : w3.heap[w.heap.size]? = some (Obj.cells #[.slice none 0 0, .slice none 0 0] 39 (0, 0)) := by
  rw [hw3, blk_alloc_lt _ _ _ (by simp; omega), blk_alloc_lt _ _ _ (by simp)]
  exact blk_alloc_new _ _
 obtain ⟨w4, cw, hp4, hs4, OP, Yf, Yg, hb4⟩ := GG (P := Tryz.prog) Tryz.underlying219 Tryz.underlying119 Tryz.rN hp3 List.nodup_nil (k := none) (.int .i64 (-1)) trivial (fun x hx => by cases hx)
 have cF : Up w w4 := ⟨OP.trans bX.os, Yf.trans bX.tape, Yg.trans bX.output, by rw [hs4]; exact bX.size, fun b hb => (hb4 b (by omega)).trans (Below.block bX b hb)⟩
 have ht4 := (hb4 (w.heap.size + 1) (by omega)).trans ht3
 have hr4 := (hb4 w.heap.size (by omega)).trans hr3
 have hz4 : w4.heap.size = w.heap.size + 3 := hs4.trans hz3
 rw [hw3] at cw
 simp only [pk] at cw
 have jQ := aa cF
 have KY := aa ht4
 have HR4 := aa hr4
 have Eb := aa hz4
 have Ec := aa hp4
 have HF := aa hF
 have GA := aa hwf
 have HLEN := aa hlen
 have HN := aa hN
 clear hw3 bX hz3 hp3 ht3 hr3 hp4 hs4 OP Yf Yg hb4 cF ht4 hr4 hz4 hF hwf hlen hN
 gi_wp2_with fail
 refine ⟨trivial, (callsIn_wide.2 (VZ _ _)).mono ?_⟩
 rintro e w6 ⟨rfl, rfl⟩
 rw [World.size_alloc, Eb.out]
 gi_wp2_with fail
 have cU : Up w4 ((w4.alloc (.cells #[.map (some (w.heap.size + 1 + 1))] 219)).alloc (.cells #[.pointer (some ⟨A i, 0, none⟩)] 119)) := (Up.alloc _ _).trans (Up.alloc _ _)
 have Yh : ((w4.alloc (.cells #[.map (some (w.heap.size + 1 + 1))] 219)).alloc (.cells #[.pointer (some ⟨A i, 0, none⟩)] 119)).heap.size = w.heap.size + 5 := by simp [Eb.out]
 have hx6 : ((w4.alloc (.cells #[.map (some (w.heap.size + 1 + 1))] 219)).alloc (.cells #[.pointer (some ⟨A i, 0, none⟩)] 119)).cell? ⟨w.heap.size + 3 + 1, 0, none⟩ = some (.pointer (some ⟨A i, 0, none⟩)) := by
  have h := aO (w4.alloc (.cells #[.map (some (w.heap.size + 1 + 1))] 219)) #[.pointer (some ⟨A i, 0, none⟩)] 119 0
  rw [World.size_alloc, Eb.out] at h; exact h
 have hm6 : ((w4.alloc (.cells #[.map (some (w.heap.size + 1 + 1))] 219)).alloc (.cells #[.pointer (some ⟨A i, 0, none⟩)] 119)).cell? ⟨w.heap.size + 3, 0, none⟩ = some (.map (some (w.heap.size + 1 + 1))) := by
  have h := aO w4 #[.map (some (w.heap.size + 1 + 1))] 219 0
  rw [Eb.out] at h
  exact (Up.alloc _ _).cell h
 have ht6 := (Below.block cU (w.heap.size + 1) (by rw [Eb.out]; omega)).trans KY.out
 have hr6 := (Below.block cU w.heap.size (by rw [Eb.out]; omega)).trans HR4.out
 have hp6 := Ec.out.of_block (Below.block cU (w.heap.size + 1 + 1) (by rw [Eb.out]; omega))
 have hF6 := (HF.out.up jQ.out).up cU
 have Yi := jQ.out.trans cU
 generalize (w4.alloc (.cells #[.map (some (w.heap.size + 1 + 1))] 219)).alloc (.cells #[.pointer (some ⟨A i, 0, none⟩)] 119) = w6 at *
 have hlt : ∀ j, j < n → A j < w.heap.size := fun j hj => HF.out.lt hj
 have hlo : ∀ j b, j < n → (kv j).ownBlock = some b → b < w.heap.size := fun j b hj hb => (HF.out.gu hj hb).2
 have hinj := HF.out.inj
 have HX := aa (show Up w w6 from Yi)
 clear cU Yi jQ KY HR4 Eb Ec cw
 generalize hB : w.heap.size = B at *
 have HB : Hid (w.heap.size = B) := hB
 clear hB
 apply wpIn_rangeFunc_ownG (F := Fence.wide) (n := 9) (P := Tryz.prog) (ps := #[11, 12]) (w := w6) rfl (by omega) (gf := 259) (lb := #[.pointer (some ⟨B + 3 + 1, 0, none⟩)]) rfl trivial (enters_of Tryz.func259 (by kernel_rfl) rfl)
  (J8 (T := fun b => b < B + 5 ∧ b ≠ B + 1 ∧ b ≠ B + 1 + 1) GA.out HLEN.out (fun j hj => ⟨by have := hlt j hj; omega, by have := hlt j hj; omega, by have := hlt j hj; omega⟩) (fun j b hj hb => ⟨by have := hlo j b hj hb; omega, by have := hlo j b hj hb; omega, by have := hlo j b hj hb; omega⟩) 8 (B + 3 + 1) i hi w6 (fun b hb => by rw [Yh]; exact hb.1) ⟨by omega, by omega, by omega⟩ hF6 hx6)
  (fun h k => KN.trans h k) (fun W l o o' hl ho hc _ => ⟨fun b hb => World.putObj_heap_other (by have := hb.1; omega), fun b c z hb => World.putObj_heap_other (fun e => by subst e; rw [hb] at ho; injection ho with ho; subst ho; cases hc)⟩) (Below.refl _ _) (fun _ => (rfl : (2 : Nat) = 2))
  (Ea n (B + 5) (B + 1) (B + 1 + 1) A F (fun b => b < B + 5 ∧ b ≠ B + 1 ∧ b ≠ B + 1 + 1) w6) (fun _ _ _ => False)
 ·exact Ea.own Yh
 ·exact fun _ _ _ _ _ h _ _ => h
 ·exact ⟨KS.refl _ _, Below.refl _ _, .slice none 0 0, .slice none 0 0, ht6, ⟨aC.nil _ _ _, aC.nil _ _ _, fun b hb => (by cases hb), Below.refl _ _, fun _ _ _ _ => rfl, KeepsFrom.refl _ _⟩, hp6, by simp [vJ, lZ, cE, cB, CV]⟩
 ·intro l x W K hK
  simp only [CT]
  gi_wp2
  exact hK
 ·rintro l pre x W ⟨hks, kj, Pv, Nv, jf, uz, hmp, KX⟩ hpl
  obtain ⟨⟨x1, xp⟩, hx1, rS⟩ := x
  have aV := aa hlt
  have Yj := aa hinj
  have hxl := hlt x1 hx1
  have UM : bq base n A kv F W := hF6.same (fun j hj => hks (A j) ⟨by have := hlt j hj; omega, by have := hlt j hj; omega, by have := hlt j hj; omega⟩) (fun j b hj hb => hks b ⟨by have := hlo j b hj hb; omega, by have := hlo j b hj hb; omega, by have := hlo j b hj hb; omega⟩)
  have hok : qM n pre.length (cB F (cE pre)) := Mp pre
  have hb0 : W.cell? ⟨B + 1, 0, none⟩ = some Pv := by simp [World.cell?, jf]
  have hmb : W.cell? ⟨B + 3, 0, none⟩ = some (.map (some (B + 1 + 1))) := by rw [World.cell?_of_block (a := ⟨B + 3, 0, none⟩) (hks (B + 3) ⟨by omega, by omega, by omega⟩)]; exact hm6
  obtain ⟨pp, pc, rfl, _⟩ := uz.cR.form (n := pre.length) (by rw [List.length_map]; exact hok.lp)
  have hkeys : ∀ z ∈ lZ A (cB F (cE pre)).mp, fI W z.1 := fun z hz => by
   obtain ⟨y, hy, rfl⟩ := List.mem_map.1 hz
   obtain ⟨y1, y2⟩ := y
   cases y1 with
   | none => trivial
   | some k => exact UM.plain (hok.keys _ hy k rfl)
  obtain ⟨w1, cw, CW, hs1, UL, Mq, Mr, hb1⟩ := GG (P := Tryz.prog) Tryz.underlying219 Tryz.underlying119 Tryz.rN hmp KX (k := some (A x1)) (.int .i64 (pre.length : Nat)) (UM.plain hx1) hkeys
  simp only [pk] at cw
  have RQ : pre.length ≤ 100000 := by have := HN.out; omega
  gi_wp2
  have jR : jP (B + 5) w1 w1 (.slice pp pre.length pc) Nv (cB F (cE pre)).ps (cB F (cE pre)).ns := ⟨uz.cR.same fun b hb => hb1 b (by have := (aF uz.cR hb).1; omega), uz.dF.same fun b hb => hb1 b (by have := (aF uz.dF hb).1; omega), uz.apart, Below.refl _ _, fun _ _ _ _ => rfl, KeepsFrom.refl _ _⟩
  obtain ⟨np, nc, rfl, _⟩ := uz.dF.form (n := pre.length) (by rw [List.length_map]; exact hok.ln)
  have hput : tU (lZ A (cB F (cE pre)).mp) (some (A x1)) (.int .i64 (pre.length : Nat)) = lZ A (cB F (cE (pre ++ [⟨(x1, xp), hx1, rS⟩]))).mp := by
   rw [ux, show cE [(⟨(x1, xp), hx1, rS⟩ : lV n)] = [(x1, xp)] from rfl, xZ]
   show _ = lZ A (kP (cB F (cE pre)).mp (some x1) ((cB F (cE pre)).ps.length : Nat))
   rw [hok.lp, ← RO Yj.out (fun j hj => by cases hj; exact hx1) hok.keys]; rfl
  rw [hput] at CW
  have Yk : vJ (lZ A (cB F (cE (pre ++ [⟨(x1, xp), hx1, rS⟩]))).mp) := by rw [← hput]; exact OI KX _ _
  have RR : qM n (pre ++ [(⟨(x1, xp), hx1, rS⟩ : lV n)]).length (cB F (cE (pre ++ [⟨(x1, xp), hx1, rS⟩]))) := Mp _
  have D9 : bq base n A kv F w1 := UM.same (fun j hj => hb1 _ (by have := aV.out j hj; omega)) (fun j b hj hb => hb1 _ (by have := hlo j b hj hb; omega))
  obtain ⟨z, hz⟩ : ∃ z : Int, z = (((cB F (cE (pre ++ [⟨(x1, xp), hx1, rS⟩]))).mp).lookup xp).getD 0 := ⟨_, rfl⟩
  have Yl : (cB F (cE (pre ++ [⟨(x1, xp), hx1, rS⟩]))).ps = (cB F (cE pre)).ps ++ [z] := by
   rw [hz, ux, show cE [(⟨(x1, xp), hx1, rS⟩ : lV n)] = [(x1, xp)] from rfl, xZ]; rfl
  have Ym : (cB F (cE (pre ++ [⟨(x1, xp), hx1, rS⟩]))).ns = (cB F (cE pre)).ns ++ [F.nm x1] := by
   rw [ux, show cE [(⟨(x1, xp), hx1, rS⟩ : lV n)] = [(x1, xp)] from rfl, xZ]; rfl
  have Ms : Hid (∀ We P2 N2, jP (B + 5) w1 We P2 N2 ((cB F (cE pre)).ps ++ [z]) ((cB F (cE pre)).ns ++ [F.nm x1]) → KeepsFrom w6.heap.size W ((We.setCell ⟨B + 1, 0, none⟩ P2).setCell ⟨B + 1, 1, none⟩ N2) ∧ KN (fun b => b < B + 5 ∧ b ≠ B + 1 ∧ b ≠ B + 1 + 1) W ((We.setCell ⟨B + 1, 0, none⟩ P2).setCell ⟨B + 1, 1, none⟩ N2) ∧
   Ea n (B + 5) (B + 1) (B + 1 + 1) A F (fun b => b < B + 5 ∧ b ≠ B + 1 ∧ b ≠ B + 1 + 1) w6 (pre ++ [⟨(x1, xp), hx1, rS⟩]) ((We.setCell ⟨B + 1, 0, none⟩ P2).setCell ⟨B + 1, 1, none⟩ N2)) := fun We P2 N2 hT => Ea.next Yh hks kj jf hmp CW Yk hs1 UL Mq Mr hb1 (by rw [Yl, Ym]; exact hT)
  have hb0 : w1.heap[B + 1]? = some (Obj.cells #[.slice pp pre.length pc, .slice np pre.length nc] 39 (0, 0)) := (hb1 _ (by omega)).trans jf
  have iC : Hid (∀ w', KS (fun b => b < B + 5) w1 w' → w'.cell? ⟨B + 1, 0, none⟩ = some (.slice pp pre.length pc) ∧ w'.cell? ⟨B + 1, 1, none⟩ = some (.slice np pre.length nc) ∧ w'.cell? ⟨B + 3, 0, none⟩ = some (.map (some (B + 1 + 1))) ∧ w'.cell? ⟨A x1, 0, none⟩ = some (.string (F.nm x1)) ∧ (Instr.lookup 219 (.map (some (B + 1 + 1))) (optr A xp) false).run Tryz.prog w' = .ok (.int .i64 z) w') := fun w' hS => by
   refine ⟨?_, ?_, ?_, ?_, ?_⟩
   ·simp [World.cell?, (hS (B + 1) (by omega)).trans hb0]
   ·simp [World.cell?, (hS (B + 1) (by omega)).trans hb0]
   ·rw [World.cell?_of_block (a := ⟨B + 3, 0, none⟩) ((hS (B + 3) (by show B + 3 < B + 5; omega)).trans (hb1 (B + 3) (by omega)))]; exact hmb
   ·rw [World.cell?_of_block (a := ⟨A x1, 0, none⟩) (hS (A x1) (by show A x1 < B + 5; omega))]; exact D9.name hx1
   ·have hpl : ∀ j, j < n → Plain w' (A j) := fun j hj => (D9.plain hj).of_block (hS _ (by have := aV.out j hj; show A j < B + 5; omega))
    have h := OJ (P := Tryz.prog) (w := w') Tryz.underlying219 Tryz.underlying119 Tryz.rN (z := .int .i64 0) Tryz.zeroValue3 (CW.of_block (hS _ (by show B + 1 + 1 < B + 5; omega))) (k := xp.map A)
     (by cases xp with | none => trivial | some k => exact hpl k (rS k rfl)) (fun zz hzz => by
      obtain ⟨y, hy, rfl⟩ := List.mem_map.1 hzz
      obtain ⟨y1, y2⟩ := y
      cases y1 with
      | none => trivial
      | some k => exact hpl k (RR.keys _ hy k rfl))
    rw [zU Yj.out (fun j hj => rS j hj) RR.keys] at h
    have e1 : pk (xp.map A) = optr A xp := by cases xp <;> rfl
    have e2 : ((((cB F (cE (pre ++ [⟨(x1, xp), hx1, rS⟩]))).mp).lookup xp).map (Value.int .i64)).getD (.int .i64 0) = .int .i64 z := by rw [hz]; cases List.lookup xp (cB F (cE (pre ++ [⟨(x1, xp), hx1, rS⟩]))).mp <;> rfl
    rw [e1, e2] at h; exact h
  have KZ : Hid (∀ w', KS (fun b => b < B + 5) w1 w' → ∀ o, w'.frozen? ⟨B + 1, o, none⟩ = false) := fun w' hS o => by simp [World.frozen?, (hS (B + 1) (by omega)).trans hb0]
  have UN : Hid (jP (B + 5) w1 w1.drew (.slice pp pre.length pc) (.slice np pre.length nc) (cB F (cE pre)).ps (cB F (cE pre)).ns) := jR.up (Up.drewN w1 1) (by rw [hs1]; have := kj.size; omega)
  have mR : Hid ((cB F (cE pre)).ps.length = pre.length ∧ (cB F (cE pre)).ns.length = pre.length) := ⟨hok.lp, hok.ln⟩
  have UO : B + 5 ≤ w1.drew.heap.size := by show B + 5 ≤ w1.heap.size; rw [hs1]; have := kj.size; omega
  have HFW1 := aa D9
  clear hput jR uz KX Yk hok RR Yl Ym hb0 D9 UM hmp CW cw hks kj jf hkeys hmb hz hb1 hs1 UL Mq Mr hlt hlo hinj
  generalize (cB F (cE pre)).ps = PS at *
  generalize (cB F (cE pre)).ns = NS at *
  generalize F.nm x1 = nm at *
  refine RJ (by kernel_rfl) 15 (KS (fun b => b < B + 5) w1) (KS.refl _ _) (fun hS => ?_)
  simp only [List.size_toArray, List.length_cons, List.length_nil, Nat.reduceAdd, Array.replicate_succ, Array.replicate_zero, List.push_toArray, List.nil_append, List.cons_append]
  generalize w1.drew = Wd at *
  refine bA.take (i := 0) (v := ?Ou) rfl (by kernel_rfl) (fun _ _ _ h => h) (by rfl) (fun _ => rfl) (fun w hSw => ?xV) hS ?Ov
  case xV =>
   obtain ⟨q1, q2, q3, q4, q5⟩ := iC.out w hSw
   go_simp
   try with_reducible rfl
  try simp only [Act.put, au, av, ax]
  refine bA.take (i := 1) (v := ?Ow) rfl (by kernel_rfl) (fun _ _ _ h => h) (by rfl) (fun _ => rfl) (fun w hSw => ?xW) hS ?Ox
  case xW =>
   obtain ⟨q1, q2, q3, q4, q5⟩ := iC.out w hSw
   go_simp
   try with_reducible rfl
  try simp only [Act.put, au, av, ax]
  refine bA.take (i := 2) (v := ?Oy) rfl (by kernel_rfl) (fun _ _ _ h => h) (by rfl) (fun _ => rfl) (fun w hSw => ?xX) hS ?Oz
  case xX =>
   obtain ⟨q1, q2, q3, q4, q5⟩ := iC.out w hSw
   go_simp
   try with_reducible rfl
  try simp only [Act.put, au, av, ax]
  refine bA.take (i := 3) (v := ?XO) rfl (by kernel_rfl) (fun _ _ _ h => h) (by rfl) (fun _ => rfl) (fun w hSw => ?Gm) hS ?XP
  case Gm =>
   obtain ⟨q1, q2, q3, q4, q5⟩ := iC.out w hSw
   go_simp
   try with_reducible rfl
  try simp only [Act.put, au, av, ax]
  refine bA.take (i := 4) (v := ?XQ) rfl (by kernel_rfl) (fun _ _ _ h => h) (by rfl) (fun _ => rfl) (fun w hSw => ?Gn) hS ?XR
  case Gn =>
   obtain ⟨q1, q2, q3, q4, q5⟩ := iC.out w hSw
   go_simp
   try with_reducible rfl
  try simp only [Act.put, au, av, ax]
  refine bA.take (i := 7) (v := ?UD) rfl (by kernel_rfl) (fun _ _ _ h => h) (by rfl) (fun _ => rfl) (fun w hSw => ?BF) hS ?UE
  case BF =>
   obtain ⟨q1, q2, q3, q4, q5⟩ := iC.out w hSw
   go_simp
   try with_reducible rfl
  try simp only [Act.put, au, av, ax]
  refine bA.take (i := 8) (v := ?UF) rfl (by kernel_rfl) (fun _ _ _ h => h) (by rfl) (fun _ => rfl) (fun w hSw => ?BG) hS ?UG
  case BG =>
   obtain ⟨q1, q2, q3, q4, q5⟩ := iC.out w hSw
   go_simp
   try with_reducible rfl
  try simp only [Act.put, au, av, ax]
  refine bA.take (i := 9) (v := ?UH) rfl (by kernel_rfl) (fun _ _ _ h => h) (by rfl) (fun _ => rfl) (fun w hSw => ?BH) hS ?UI
  case BH =>
   obtain ⟨q1, q2, q3, q4, q5⟩ := iC.out w hSw
   go_simp
   try with_reducible rfl
  try simp only [Act.put, au, av, ax]
  refine bA.take (i := 10) (v := ?Rx) rfl (by kernel_rfl) (fun _ _ _ h => h) (by rfl) (fun _ => rfl) (fun w hSw => ?AA) hS ?Ry
  case AA =>
   obtain ⟨q1, q2, q3, q4, q5⟩ := iC.out w hSw
   go_simp
   try with_reducible rfl
  try simp only [Act.put, au, av, ax]
  refine bA.take (i := 11) (v := ?XW) rfl (by kernel_rfl) (fun _ _ _ h => h) (by rfl) (fun _ => rfl) (fun w hSw => ?Gr) hS ?XX
  case Gr =>
   obtain ⟨q1, q2, q3, q4, q5⟩ := iC.out w hSw
   go_simp
   try with_reducible rfl
  try simp only [Act.put, au, av, ax]
  refine bA.take (i := 12) (v := ?XY) rfl (by kernel_rfl) (fun _ _ _ h => h) (by rfl) (fun _ => rfl) (fun w hSw => ?Gs) hS ?XZ
  case Gs =>
   obtain ⟨q1, q2, q3, q4, q5⟩ := iC.out w hSw
   go_simp
   try with_reducible rfl
  try simp only [Act.put, au, av, ax]
  refine bA.zg (i := 5) (i2 := 13) rfl rfl (by kernel_rfl) (fun K' hK => ?_) (fun K' hK => ?_)
  ·go_simp
   have GH : Hid (jP (B + 5) w1 (Wd.alloc (.cells #[.int .i64 z] 3)) _ _ _ _) := UN.out.up (Up.alloc _ _) UO
   have Ed : B + 5 ≤ (Wd.alloc (.cells #[.int .i64 z] 3)).heap.size := Nat.le_trans UO (Up.alloc _ _).size
   refine hK.out _ _ (fun _ => GH.out.low.block) (fun _ => ?_)
   try simp only [au, av, ax]
   refine bA.zg (i := 6) (i2 := 13) rfl rfl (by kernel_rfl) (fun K' hK => ?_) (fun K' hK => ?_)
   ·refine lF (by rfl) _ _ _ (by rfl) (B + 5) 3 _ 8 Tryz.underlying26 Tryz.ki (by rfl) (by decide) (by rfl) GH.out.cR (.int .i64 z) Wd.heap.size (by rfl) (aO Wd #[.int .i64 z] 3 0) (by rfl) (by rw [List.length_map, mR.out.1]; omega) Ed ?_
    intro g1 OQ jS rT j8 hrg1 _
    have x5 : Hid (jP (B + 5) w1 jS _ _ _ _) := GH.out.AE Ed rT j8 (hrg1.imp id (fun e => Nat.le_of_eq e.symm))
    have zV : B + 5 ≤ jS.heap.size := Nat.le_trans Ed j8.size
    refine hK.out _ _ (fun _ => x5.out.low.block) (fun _ => ?_)
    try simp only [Act.put, au, av, ax]
    refine bA.free (i := 15) (v := ?gv15a) rfl (by kernel_rfl) (fun _ _ _ h => h) (by rfl) (fun _ => rfl) (fun w => ?Mt) (fun _ => x5.out.low.block) ?gr15a
    case Mt =>
     go_simp
     try with_reducible rfl
    try simp only [Act.put, au, av, ax]
    refine bA.step (i := 13) rfl (by kernel_rfl) (fun K' hK => ?_)
    go_simp
    have uA : Hid (jP (B + 5) w1 (jS.alloc (.cells #[.string nm] 9)) _ _ _ _) := x5.out.up (Up.alloc _ _) zV
    have x6 : B + 5 ≤ (jS.alloc (.cells #[.string nm] 9)).heap.size := Nat.le_trans zV (Up.alloc _ _).size
    refine hK.out _ _ (fun _ => uA.out.low.block) (fun _ => ?_)
    try simp only [au, av, ax]
    refine bA.step (i := 14) rfl (by kernel_rfl) (fun K' hK => ?_)
    refine lF (by rfl) _ _ _ (by rfl) (B + 5) 9 _ 16 Tryz.underlying22 Tryz.CU (by rfl) (by decide) (by rfl) uA.out.dF (.string nm) jS.heap.size (by rfl) (aO jS #[.string nm] 9 0) (by rfl) (by rw [List.length_map, mR.out.2]; omega) x6 ?_
    intro g2 OS eU rU nH hrg2 _
    have mS : Hid (jP (B + 5) w1 eU _ _ _ _) := uA.out.AG x6 rU nH (hrg2.imp id (fun e => Nat.le_of_eq e.symm))
    have hSf : B + 5 ≤ eU.heap.size := Nat.le_trans x6 nH.size
    refine hK.out _ _ (fun _ => mS.out.low.block) (fun _ => ?_)
    try simp only [Act.put, au, av, ax]
    have x4 : eU.cell? ⟨B + 1, 0, none⟩ = some (.slice pp pre.length pc) := (iC.out eU mS.out.low.block).1
    have nI : eU.cell? ⟨B + 1, 1, none⟩ = some (.slice np pre.length nc) := (iC.out eU mS.out.low.block).2.1
    have OT : eU.frozen? ⟨B + 1, 0, none⟩ = false := KZ.out eU mS.out.low.block 0
    have GI : eU.frozen? ⟨B + 1, 1, none⟩ = false := KZ.out eU mS.out.low.block 1
    have nJ := aa (Ms.out eU _ _ mS.out)
    refine bA.step (i := 16) rfl (by kernel_rfl) (fun K' hK => ?_)
    go_simp
    refine hK.out _ _ (aJ (by kernel_rfl)) (fun _ => ?_)
    try simp only [au, av, ax]
    refine bA.free (i := 17) (v := ?gv17a) rfl (by kernel_rfl) (fun _ _ _ h => h) (by rfl) (fun _ => rfl) (fun w => ?gy17a) (aJ (by kernel_rfl)) ?gr17a
    case gy17a =>
     go_simp
     try with_reducible rfl
    try simp only [Act.put, au, av, ax]
    refine bA.step (i := 18) rfl (by kernel_rfl) (fun K' hK => ?_)
    go_simp
    refine hK.out _ _ (aJ (by kernel_rfl)) (fun _ => ?_)
    refine bA.done (by kernel_rfl) ?_
    gi_wp2
    have dr := nJ.out
    simp only [List.length_map] at dr
    exact dr
   ·go_simp
    have x5 : Hid (jP (B + 5) w1 ((Wd.alloc (.cells #[.int .i64 z] 3)).alloc (.cells #[.string nm] 9)) _ _ _ _) := GH.out.up (Up.alloc _ _) Ed
    have zV : B + 5 ≤ ((Wd.alloc (.cells #[.int .i64 z] 3)).alloc (.cells #[.string nm] 9)).heap.size := Nat.le_trans Ed (Up.alloc _ _).size
    refine hK.out _ _ (fun _ => x5.out.low.block) (fun _ => ?_)
    try simp only [au, av, ax]
    have qB := aO (Wd.alloc (.cells #[.int .i64 z] 3)) #[.string nm] 9 0
    have nA := (Up.alloc (Wd.alloc (.cells #[.int .i64 z] 3)) (.cells #[.string nm] 9)).cell (aO Wd #[.int .i64 z] 3 0)
    rw [World.size_alloc] at qB
    refine bA.step (i := 6) rfl (by kernel_rfl) (fun K' hK => ?_)
    refine lF (by rfl) _ _ _ (by rfl) (B + 5) 3 _ 8 Tryz.underlying26 Tryz.ki (by rfl) (by decide) (by rfl) x5.out.cR (.int .i64 z) Wd.heap.size (by rfl) nA (by rfl) (by rw [List.length_map, mR.out.1]; omega) zV ?_
    intro g1 OQ jS rT j8 hrg1 _
    have uA : Hid (jP (B + 5) w1 jS _ _ _ _) := x5.out.AE zV rT j8 (hrg1.imp id (fun e => Nat.le_of_eq e.symm))
    have x6 : B + 5 ≤ jS.heap.size := Nat.le_trans zV j8.size
    have rH : jS.cell? ⟨Wd.heap.size + 1, 0, none⟩ = some (.string nm) := by
     rw [j8.cell_far ⟨Wd.heap.size + 1, 0, none⟩ (by simp) (fun e => absurd (aF UN.out.cR e.symm).2 (by show ¬ (Wd.heap.size + 1 < Wd.heap.size); omega))]; exact qB
    refine hK.out _ _ (fun _ => uA.out.low.block) (fun _ => ?_)
    try simp only [Act.put, au, av, ax]
    refine bA.free (i := 15) (v := ?gv15b) rfl (by kernel_rfl) (fun _ _ _ h => h) (by rfl) (fun _ => rfl) (fun w => ?Mu) (fun _ => uA.out.low.block) ?gr15b
    case Mu =>
     go_simp
     try with_reducible rfl
    try simp only [Act.put, au, av, ax]
    refine bA.step (i := 14) rfl (by kernel_rfl) (fun K' hK => ?_)
    refine lF (by rfl) _ _ _ (by rfl) (B + 5) 9 _ 16 Tryz.underlying22 Tryz.CU (by rfl) (by decide) (by rfl) uA.out.dF (.string nm) (Wd.heap.size + 1) (by rfl) rH (by rfl) (by rw [List.length_map, mR.out.2]; omega) x6 ?_
    intro g2 OS eU rU nH hrg2 _
    have mS : Hid (jP (B + 5) w1 eU _ _ _ _) := uA.out.AG x6 rU nH (hrg2.imp id (fun e => Nat.le_of_eq e.symm))
    have hSf : B + 5 ≤ eU.heap.size := Nat.le_trans x6 nH.size
    refine hK.out _ _ (fun _ => mS.out.low.block) (fun _ => ?_)
    try simp only [Act.put, au, av, ax]
    have x4 : eU.cell? ⟨B + 1, 0, none⟩ = some (.slice pp pre.length pc) := (iC.out eU mS.out.low.block).1
    have nI : eU.cell? ⟨B + 1, 1, none⟩ = some (.slice np pre.length nc) := (iC.out eU mS.out.low.block).2.1
    have OT : eU.frozen? ⟨B + 1, 0, none⟩ = false := KZ.out eU mS.out.low.block 0
    have GI : eU.frozen? ⟨B + 1, 1, none⟩ = false := KZ.out eU mS.out.low.block 1
    have nJ := aa (Ms.out eU _ _ mS.out)
    refine bA.step (i := 16) rfl (by kernel_rfl) (fun K' hK => ?_)
    go_simp
    refine hK.out _ _ (aJ (by kernel_rfl)) (fun _ => ?_)
    try simp only [au, av, ax]
    refine bA.free (i := 17) (v := ?gv17b) rfl (by kernel_rfl) (fun _ _ _ h => h) (by rfl) (fun _ => rfl) (fun w => ?gy17b) (aJ (by kernel_rfl)) ?gr17b
    case gy17b =>
     go_simp
     try with_reducible rfl
    try simp only [Act.put, au, av, ax]
    refine bA.step (i := 18) rfl (by kernel_rfl) (fun K' hK => ?_)
    go_simp
    refine hK.out _ _ (aJ (by kernel_rfl)) (fun _ => ?_)
    refine bA.done (by kernel_rfl) ?_
    gi_wp2
    have dr := nJ.out
    simp only [List.length_map] at dr
    exact dr
  ·go_simp
   have GH : Hid (jP (B + 5) w1 (Wd.alloc (.cells #[.string nm] 9)) _ _ _ _) := UN.out.up (Up.alloc _ _) UO
   have Ed : B + 5 ≤ (Wd.alloc (.cells #[.string nm] 9)).heap.size := Nat.le_trans UO (Up.alloc _ _).size
   refine hK.out _ _ (fun _ => GH.out.low.block) (fun _ => ?_)
   try simp only [au, av, ax]
   refine bA.step (i := 5) rfl (by kernel_rfl) (fun K' hK => ?_)
   go_simp
   have x5 : Hid (jP (B + 5) w1 ((Wd.alloc (.cells #[.string nm] 9)).alloc (.cells #[.int .i64 z] 3)) _ _ _ _) := GH.out.up (Up.alloc _ _) Ed
   have zV : B + 5 ≤ ((Wd.alloc (.cells #[.string nm] 9)).alloc (.cells #[.int .i64 z] 3)).heap.size := Nat.le_trans Ed (Up.alloc _ _).size
   refine hK.out _ _ (fun _ => x5.out.low.block) (fun _ => ?_)
   try simp only [au, av, ax]
   have nA := aO (Wd.alloc (.cells #[.string nm] 9)) #[.int .i64 z] 3 0
   have qB := (Up.alloc (Wd.alloc (.cells #[.string nm] 9)) (.cells #[.int .i64 z] 3)).cell (aO Wd #[.string nm] 9 0)
   rw [World.size_alloc] at nA
   refine bA.step (i := 6) rfl (by kernel_rfl) (fun K' hK => ?_)
   refine lF (by rfl) _ _ _ (by rfl) (B + 5) 3 _ 8 Tryz.underlying26 Tryz.ki (by rfl) (by decide) (by rfl) x5.out.cR (.int .i64 z) (Wd.heap.size + 1) (by rfl) nA (by rfl) (by rw [List.length_map, mR.out.1]; omega) zV ?_
   intro g1 OQ jS rT j8 hrg1 _
   have uA : Hid (jP (B + 5) w1 jS _ _ _ _) := x5.out.AE zV rT j8 (hrg1.imp id (fun e => Nat.le_of_eq e.symm))
   have x6 : B + 5 ≤ jS.heap.size := Nat.le_trans zV j8.size
   have rH : jS.cell? ⟨Wd.heap.size, 0, none⟩ = some (.string nm) := by
    rw [j8.cell_far ⟨Wd.heap.size, 0, none⟩ (by simp; omega) (fun e => absurd (aF UN.out.cR e.symm).2 (by show ¬ (Wd.heap.size < Wd.heap.size); omega))]; exact qB
   refine hK.out _ _ (fun _ => uA.out.low.block) (fun _ => ?_)
   try simp only [Act.put, au, av, ax]
   refine bA.free (i := 15) (v := ?gv15c) rfl (by kernel_rfl) (fun _ _ _ h => h) (by rfl) (fun _ => rfl) (fun w => ?Mv) (fun _ => uA.out.low.block) ?gr15c
   case Mv =>
    go_simp
    try with_reducible rfl
   try simp only [Act.put, au, av, ax]
   refine bA.step (i := 14) rfl (by kernel_rfl) (fun K' hK => ?_)
   refine lF (by rfl) _ _ _ (by rfl) (B + 5) 9 _ 16 Tryz.underlying22 Tryz.CU (by rfl) (by decide) (by rfl) uA.out.dF (.string nm) Wd.heap.size (by rfl) rH (by rfl) (by rw [List.length_map, mR.out.2]; omega) x6 ?_
   intro g2 OS eU rU nH hrg2 _
   have mS : Hid (jP (B + 5) w1 eU _ _ _ _) := uA.out.AG x6 rU nH (hrg2.imp id (fun e => Nat.le_of_eq e.symm))
   have hSf : B + 5 ≤ eU.heap.size := Nat.le_trans x6 nH.size
   refine hK.out _ _ (fun _ => mS.out.low.block) (fun _ => ?_)
   try simp only [Act.put, au, av, ax]
   have x4 : eU.cell? ⟨B + 1, 0, none⟩ = some (.slice pp pre.length pc) := (iC.out eU mS.out.low.block).1
   have nI : eU.cell? ⟨B + 1, 1, none⟩ = some (.slice np pre.length nc) := (iC.out eU mS.out.low.block).2.1
   have OT : eU.frozen? ⟨B + 1, 0, none⟩ = false := KZ.out eU mS.out.low.block 0
   have GI : eU.frozen? ⟨B + 1, 1, none⟩ = false := KZ.out eU mS.out.low.block 1
   have nJ := aa (Ms.out eU _ _ mS.out)
   refine bA.step (i := 16) rfl (by kernel_rfl) (fun K' hK => ?_)
   go_simp
   refine hK.out _ _ (aJ (by kernel_rfl)) (fun _ => ?_)
   try simp only [au, av, ax]
   refine bA.free (i := 17) (v := ?gv17c) rfl (by kernel_rfl) (fun _ _ _ h => h) (by rfl) (fun _ => rfl) (fun w => ?gy17c) (aJ (by kernel_rfl)) ?gr17c
   case gy17c =>
    go_simp
    try with_reducible rfl
   try simp only [Act.put, au, av, ax]
   refine bA.step (i := 18) rfl (by kernel_rfl) (fun K' hK => ?_)
   go_simp
   refine hK.out _ _ (aJ (by kernel_rfl)) (fun _ => ?_)
   refine bA.done (by kernel_rfl) ?_
   gi_wp2
   have dr := nJ.out
   simp only [List.length_map] at dr
   exact dr
 ·rintro D xs W hD hS ⟨hks, kj, Pv, Nv, jf, uz, hmp, KX⟩ hK
  have hb0 : W.cell? ⟨B + 1, 0, none⟩ = some Pv := by simp [World.cell?, jf]
  have hb1 : W.cell? ⟨B + 1, 1, none⟩ = some Nv := by simp [World.cell?, jf]
  have zW : W.heap[B]? = some (Obj.cells #[.slice none 0 0, .slice none 0 0] 39 (0, 0)) := (hks B ⟨by omega, by omega, by omega⟩).trans hr6
  have hok : qM n xs.length (cB F (cE xs)) := Mp xs
  obtain ⟨pp, pc, rfl, _⟩ := uz.cR.form (n := xs.length) (by rw [List.length_map]; exact hok.lp)
  obtain ⟨np, nc, rfl, _⟩ := uz.dF.form (n := xs.length) (by rw [List.length_map]; exact hok.ln)
  have ku : W.cell? ⟨B, 0, none⟩ = some (.slice none 0 0) := by simp [World.cell?, zW]
  have hr1 : W.cell? ⟨B, 1, none⟩ = some (.slice none 0 0) := by simp [World.cell?, zW]
  have K0 : W.frozen? ⟨B, 0, none⟩ = false := by simp [World.frozen?, zW]
  have uC : W.frozen? ⟨B, 1, none⟩ = false := by simp [World.frozen?, zW]
  gi_wp2_with fail
  have Yn : D ≠ B := by omega
  have hK2 : ((W.setCell ⟨B, 0, none⟩ (.slice pp xs.length pc)).setCell ⟨B, 1, none⟩ (.slice np xs.length nc)).heap[D]? = some (.deferred (some [])) := by
   rw [blk_setCell_other _ _ _ _ Yn, blk_setCell_other _ _ _ _ Yn]; exact hK
  refine ⟨by simp, .inl ⟨_, _, rfl, run_takeDeferred hK2, ?_⟩⟩
  have hheap : ((W.setCell ⟨B, 0, none⟩ (.slice pp xs.length pc)).setCell ⟨B, 1, none⟩ (.slice np xs.length nc)).heap[B]? = some (Obj.cells #[.slice pp xs.length pc, .slice np xs.length nc] 39 (0, 0)) := by
   simp [World.setCell, Array.getElem?_modify, zW]
  have hq : ∀ b, b ≠ D → (((W.setCell ⟨B, 0, none⟩ (.slice pp xs.length pc)).setCell ⟨B, 1, none⟩ (.slice np xs.length nc)).putObj D (.deferred none)).heap[b]? = ((W.setCell ⟨B, 0, none⟩ (.slice pp xs.length pc)).setCell ⟨B, 1, none⟩ (.slice np xs.length nc)).heap[b]? := fun b hb => World.putObj_heap_other hb
  have OU := (hq B (Ne.symm Yn)).trans hheap
  have Yo : ∀ b, b ≠ B → ((W.setCell ⟨B, 0, none⟩ (.slice pp xs.length pc)).setCell ⟨B, 1, none⟩ (.slice np xs.length nc)).heap[b]? = W.heap[b]? := fun b hb => by rw [blk_setCell_other _ _ _ _ hb, blk_setCell_other _ _ _ _ hb]
  have hsz : (((W.setCell ⟨B, 0, none⟩ (.slice pp xs.length pc)).setCell ⟨B, 1, none⟩ (.slice np xs.length nc)).putObj D (.deferred none)).heap.size = W.heap.size := by simp [World.size_setCell]
  have hos : (((W.setCell ⟨B, 0, none⟩ (.slice pp xs.length pc)).setCell ⟨B, 1, none⟩ (.slice np xs.length nc)).putObj D (.deferred none)).os = W.os ∧ (((W.setCell ⟨B, 0, none⟩ (.slice pp xs.length pc)).setCell ⟨B, 1, none⟩ (.slice np xs.length nc)).putObj D (.deferred none)).tape = W.tape ∧ (((W.setCell ⟨B, 0, none⟩ (.slice pp xs.length pc)).setCell ⟨B, 1, none⟩ (.slice np xs.length nc)).putObj D (.deferred none)).output = W.output := ⟨rfl, rfl, rfl⟩
  generalize ((W.setCell ⟨B, 0, none⟩ (.slice pp xs.length pc)).setCell ⟨B, 1, none⟩ (.slice np xs.length nc)).putObj D (.deferred none) = We at *
  have hc0 : We.cell? ⟨B, 0, none⟩ = some (.slice pp xs.length pc) := by simp [World.cell?, OU]
  have hc1 : We.cell? ⟨B, 1, none⟩ = some (.slice np xs.length nc) := by simp [World.cell?, OU]
  have hown : ∀ {e : TypeId} {v : Value} {vs : List Value}, aC (B + 5) e W v vs → aC (B + 5) e We v vs := fun ho => ho.same fun b hb => by
   have h1 := (aF ho hb).1
   obtain ⟨c, hc⟩ := ho.typed hb
   have hbD : b ≠ D := fun e => by subst e; rw [hK] at hc; cases hc
   rw [hq b hbD, Yo b (by omega)]
  refine ⟨.agg #[.slice pp xs.length pc, .slice np xs.length nc], by simp [results, Tryz.results165, go_sem, hc0, hc1], ?_, _, rfl, .slice pp xs.length pc, .slice np xs.length nc, rfl, ?_, ?_⟩
  ·have hX := HX.out
   have hBw := HB.out
   refine ⟨hos.1.trans (kj.os.trans hX.os), hos.2.1.trans (kj.tape.trans hX.tape), hos.2.2.trans (kj.output.trans hX.output), ?_, fun b hb => ?_⟩
   ·rw [hsz]; have h1 := hX.size; have h2 := kj.size; omega
   ·rw [hBw] at hb
    rw [hq b (by omega), Yo b (by omega), kj.block b (by omega)]
    exact Below.block hX b (by rw [hBw]; exact hb)
  ·show aq (fun b => w.heap.size ≤ b) We _ (cB F (dN F rk i none)).ps
   rw [← hS, HB.out]
   exact (hown uz.cR).ints.sub fun b (hb : B + 5 ≤ b) _ => (by omega : B ≤ b)
  ·show ah (fun b => w.heap.size ≤ b) We _ (cB F (dN F rk i none)).ns
   rw [← hS, HB.out]
   exact (hown uz.dF).strs.sub fun b (hb : B + 5 ≤ b) _ => (by omega : B ≤ b)
 ·rintro D c pre W _ _ h _
  exact h.elim
end Go.Proofs.YthgabkgmkolobaaGreat
