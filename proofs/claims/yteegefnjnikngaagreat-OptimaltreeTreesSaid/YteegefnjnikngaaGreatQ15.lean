/- The contract of phylotree.tree. -/
import Derived.Test.YteegefnjnikngaaGreatQ1
import Derived.Test.YteegefnjnikngaaGreatQ13
import Derived.Test.YteegefnjnikngaaGreatQ14
import Derived.RangeFuncWrites
set_option maxRecDepth 100000
namespace Go.Proofs.YteegefnjnikngaaGreat
open Go.RowKit Go.Shelf Go.Deep
attribute [local go_sem] Oper.semAt_some
theorem Tryz.zI : (Tryz.prog.info? 9).map (fun i => (i.zero, i.size, i.bytes)) = some (some (.string ⟨#[]⟩), 1, 16) := by kernel_rfl
def ji (l : List (Option Nat × Int)) (k : Option Nat) (v : Int) : List (Option Nat × Int) := if (l.lookup k).isNone then l ++ [(k, v)] else l.map fun x => if x.1 = k then (k, v) else x
structure tC where
 mp : List (Option Nat × Int)
 ps : List Int
 ns : List ByteArray
def lg (F : aL) (s : tC) (x : Nat × Option Nat) : tC :=
 ⟨ji s.mp (some x.1) s.ps.length, s.ps ++ [((ji s.mp (some x.1) s.ps.length).lookup x.2).getD 0], s.ns ++ [F.nm x.1]⟩
def zJ : tC := ⟨[(none, -1)], [], []⟩
def bW (F : aL) (l : List (Nat × Option Nat)) : tC := l.foldl (lg F) zJ
theorem uy (F : aL) (l : List (Nat × Option Nat)) (x : Nat × Option Nat) : bW F (l ++ [x]) = lg F (bW F l) x := by simp [bW]
def ew (F : aL) (rk : Nat → Nat) (i : Nat) : av := ⟨(bW F (cK F rk i none)).ps, (bW F (cK F rk i none)).ns⟩
def jO (A : Nat → Nat) (l : List (Option Nat × Int)) : List (Option Nat × Value) := l.map fun x => (x.1.map A, .int .i64 x.2)
def rA (n : Nat) (l : List (Option Nat × Int)) : Prop := ∀ x ∈ l, ∀ k, x.1 = some k → k < n
theorem map_inj {A : Nat → Nat} {n : Nat} (hinj : ∀ i j, i < n → j < n → A i = A j → i = j) {x y : Option Nat} (hx : ∀ k, x = some k → k < n) (hy : ∀ k, y = some k → k < n) (h : x.map A = y.map A) : x = y := by
 cases x with
 | none => cases y with
  | none => rfl
  | some b => cases h
 | some a => cases y with
  | none => cases h
  | some b =>
   simp only [Option.map_some, Option.some.injEq] at h
   rw [hinj a b (hx a rfl) (hy b rfl) h]
theorem wK {A : Nat → Nat} {n : Nat} (hinj : ∀ i j, i < n → j < n → A i = A j → i = j) {k : Option Nat} (hk : ∀ j, k = some j → j < n) : ∀ {l : List (Option Nat × Int)}, rA n l → (jO A l).lookup (k.map A) = (l.lookup k).map (Value.int .i64) := by
 intro l
 induction l with
 | nil => intro _; rfl
 | cons x l ih =>
  intro hl
  obtain ⟨x1, x2⟩ := x
  have hl2 : rA n l := fun z hz => hl z (by simp [hz])
  show List.lookup (k.map A) ((x1.map A, Value.int .i64 x2) :: jO A l) = _
  rw [List.lookup_cons, List.lookup_cons]
  by_cases h : k = x1
  ·subst h; simp
  ·have h1 : (k == x1) = false := by simpa using h
   have h2 : (k.map A == x1.map A) = false := by
    simp only [beq_eq_false_iff_ne, ne_eq]
    exact fun e => h (map_inj hinj hk (fun j hj => hl (x1, x2) (by simp) j hj) e)
   rw [h1, h2]; exact ih hl2
theorem Nb {A : Nat → Nat} {n : Nat} (hinj : ∀ i j, i < n → j < n → A i = A j → i = j) {k : Option Nat} (hk : ∀ j, k = some j → j < n) {l : List (Option Nat × Int)} (hl : rA n l) (v : Int) : qO (jO A l) (k.map A) (.int .i64 v) = jO A (ji l k v) := by
 unfold qO ji
 rw [wK hinj hk hl]
 cases h : l.lookup k with
 | none => simp [jO]
 | some y =>
  simp only [Option.map_some, Option.isNone_some, Bool.false_eq_true, if_false]
  unfold jO
  rw [List.map_map, List.map_map]
  refine List.map_congr_left fun x hx => ?_
  show (if x.1.map A = k.map A then (k.map A, Value.int .i64 v) else (x.1.map A, Value.int .i64 x.2)) = ((if x.1 = k then (k, v) else x).1.map A, Value.int .i64 (if x.1 = k then (k, v) else x).2)
  by_cases e : x.1 = k
  ·rw [if_pos (by rw [e]), if_pos e]
  ·rw [if_neg (fun e2 => e (map_inj hinj (fun j hj => hl x hx j hj) hk e2)), if_neg e]
theorem Ku {n : Nat} {l : List (Option Nat × Int)} (hl : rA n l) {k : Option Nat} (hk : ∀ j, k = some j → j < n) (v : Int) : rA n (ji l k v) := by
 intro x hx
 unfold ji at hx
 split at hx
 ·rcases List.mem_append.1 hx with h | h
  ·exact hl x h
  ·have : x = (k, v) := by simpa using h
   subst this; exact hk
 ·obtain ⟨y, hy, e⟩ := List.mem_map.1 hx
  split at e
  ·subst e; exact hk
  ·subst e; exact hl y hy
structure nO (n m : Nat) (s : tC) : Prop where
 keys : rA n s.mp
 lp : s.ps.length = m
 ln : s.ns.length = m
theorem nO.step {n m : Nat} {s : tC} {F : aL} (h : nO n m s) (x : jL n) : nO n (m + 1) (lg F s x.1) :=
 ⟨Ku h.keys (fun j hj => by cases hj; exact x.2.1) _, by show (s.ps ++ [_]).length = _; rw [List.length_append, h.lp]; rfl, by show (s.ns ++ [_]).length = _; rw [List.length_append, h.ln]; rfl⟩
theorem Ij {n : Nat} {F : aL} : ∀ (l : List (jL n)) (m : Nat) (s : tC), nO n m s → nO n (m + l.length) ((bY l).foldl (lg F) s) := by
 intro l
 induction l with
 | nil => intro m s h; exact h
 | cons x l ih =>
  intro m s h
  have h2 := ih (m + 1) _ (h.step (F := F) x)
  rw [show m + (x :: l).length = m + 1 + l.length by simp; omega]
  exact h2
theorem Ik {n : Nat} {F : aL} (l : List (jL n)) : nO n l.length (bW F (bY l)) := by
 have h := Ij (F := F) l 0 zJ ⟨fun x hx k hk => (by
  have : x = (none, -1) := by simpa [zJ] using hx
  subst this; cases hk), rfl, rfl⟩
 rw [Nat.zero_add] at h; exact h
def Kv (w : World) (t : av) (e : Ending) (w' : World) : Prop := Up w w' ∧ ∃ v, e = .returned v ∧ ay (fun b => w.heap.size ≤ b) w' v t
structure iK (B0 : Nat) (w1 W : World) (Pv Nv : Value) (ps : List Int) (ns : List ByteArray) : Prop where
 cg : az B0 3 W Pv (ps.map (Value.int .i64))
 cG : az B0 9 W Nv (ns.map Value.string)
 apart : ∀ b, Pv.ownBlock = some b → Nv.ownBlock ≠ some b
 low : Below B0 w1 W
 fns : ∀ (b : Nat) (c : Array Value) (z : Nat × Nat), w1.heap[b]? = some (Obj.cells c 266 z) → W.heap[b]? = w1.heap[b]?
 far : KeepsFrom B0 w1 W
section
variable {B0 : Nat} {w1 W W' : World} {Pv Nv : Value} {ps : List Int} {ns : List ByteArray}
theorem az.typed {base : Nat} {e : TypeId} {w : World} {v : Value} {vs : List Value} (h : az base e w v vs) {b : Nat} (hb : v.ownBlock = some b) : ∃ c, w.heap[b]? = some (Obj.cells c e (0, 0)) := by
 obtain ⟨_, ⟨rfl, _⟩ | ⟨g, cap, cur, rfl, _, hc, _⟩⟩ := h
 ·cases hb
 ·injection hb with hb; subst hb; exact ⟨cur, hc⟩
theorem iK.up (h : iK B0 w1 W Pv Nv ps ns) (hu : Up W W') (hB : B0 ≤ W.heap.size) : iK B0 w1 W' Pv Nv ps ns :=
 ⟨h.cg.same fun b hb => Below.block hu b (aD h.cg hb).2, h.cG.same fun b hb => Below.block hu b (aD h.cG hb).2, h.apart, Below.trans h.low (Below.mono hu hB), fun b c z hb => by
  have h1 := h.fns b c z hb
  rw [← h1]
  exact Below.block hu b (by rw [hb] at h1; exact (Array.getElem?_eq_some_iff.1 h1).1), h.far.trans ⟨hu.size, fun k o _ hk _ => (Below.block hu k (Array.getElem?_eq_some_iff.1 hk).1).trans hk⟩⟩
theorem iK.xB (h : iK B0 w1 W Pv Nv ps ns) (hB : B0 ≤ W.heap.size) {g cap k : Nat} {u : Int} (ho : az B0 3 W' (.slice (some ⟨g, 0, none⟩) k cap) (ps.map (Value.int .i64) ++ [.int .i64 u])) (hg : W.grownBy W' Pv.ownBlock) (dw : Pv.ownBlock = some g ∨ W.heap.size ≤ g) :
  iK B0 w1 W' (.slice (some ⟨g, 0, none⟩) k cap) Nv (ps ++ [u]) ns := by
 refine ⟨by rw [List.map_append]; exact ho, h.cG.same fun b hb => hg.block b (aD h.cG hb).2 (fun e => h.apart b e.symm hb), fun b hb hb2 => ?_, Below.trans h.low (h.cg.cQ hg hB), fun b c z hb => ?_, h.far.trans ⟨hg.size, fun k o _ hk hc => (hg.block k (Array.getElem?_eq_some_iff.1 hk).1 (fun e => ?_)).trans hk⟩⟩
 ·injection hb with hb
  have hb : g = b := hb
  subst hb
  rcases dw with h1 | h1
  ·exact h.apart g h1 hb2
  ·have := (aD h.cG hb2).2; omega
 ·have h1 := h.fns b c z hb
  rw [← h1]
  refine hg.block b (by rw [hb] at h1; exact (Array.getElem?_eq_some_iff.1 h1).1) (fun e => ?_)
  obtain ⟨c2, h2⟩ := h.cg.typed e.symm
  rw [h1, hb] at h2
  injection h2 with h2
  injection h2 with _ h2 _
  cases h2
 ·obtain ⟨c2, h2⟩ := h.cg.typed e.symm
  rw [h2] at hk; injection hk with hk; subst hk; cases hc
theorem iK.xC (h : iK B0 w1 W Pv Nv ps ns) (hB : B0 ≤ W.heap.size) {g cap k : Nat} {u : ByteArray} (ho : az B0 9 W' (.slice (some ⟨g, 0, none⟩) k cap) (ns.map Value.string ++ [.string u])) (hg : W.grownBy W' Nv.ownBlock) (dw : Nv.ownBlock = some g ∨ W.heap.size ≤ g) :
  iK B0 w1 W' Pv (.slice (some ⟨g, 0, none⟩) k cap) ps (ns ++ [u]) := by
 refine ⟨h.cg.same fun b hb => hg.block b (aD h.cg hb).2 (fun e => h.apart b hb e.symm), by rw [List.map_append]; exact ho, fun b hb hb2 => ?_, Below.trans h.low (h.cG.cQ hg hB), fun b c z hb => ?_, h.far.trans ⟨hg.size, fun k o _ hk hc => (hg.block k (Array.getElem?_eq_some_iff.1 hk).1 (fun e => ?_)).trans hk⟩⟩
 ·injection hb2 with hb2
  have hb2 : g = b := hb2
  subst hb2
  rcases dw with h1 | h1
  ·exact h.apart g hb h1
  ·have := (aD h.cg hb).2; omega
 ·have h1 := h.fns b c z hb
  rw [← h1]
  refine hg.block b (by rw [hb] at h1; exact (Array.getElem?_eq_some_iff.1 h1).1) (fun e => ?_)
  obtain ⟨c2, h2⟩ := h.cG.typed e.symm
  rw [h1, hb] at h2
  injection h2 with h2
  injection h2 with _ h2 _
  cases h2
 ·obtain ⟨c2, h2⟩ := h.cG.typed e.symm
  rw [h2] at hk; injection hk with hk; subst hk; cases hc
end
def AW (n B0 Bt m : Nat) (A : Nat → Nat) (F : aL) (T : Nat → Prop) (w6 : World) (pre : List (jL n)) (W : World) : Prop :=
 KS T w6 W ∧ Below (Bt) w6 W ∧ ∃ Pv Nv, W.heap[Bt]? = some (Obj.cells #[Pv, Nv] 39 (0, 0)) ∧ iK B0 W W Pv Nv (bW F (bY pre)).ps (bW F (bY pre)).ns ∧ gQ W m (jO A (bW F (bY pre)).mp) ∧ su (jO A (bW F (bY pre)).mp)
theorem AW.own {n B : Nat} {A : Nat → Nat} {F : aL} {w6 : World} (hz : w6.heap.size = B + 5) : OwnFrom w6.heap.size (AW n (B + 5) (B + 1) (B + 1 + 1) A F (fun b => b < B + 5 ∧ b ≠ B + 1 ∧ b ≠ B + 1 + 1) w6) := by
 intro s X Y row hs hg hr
 obtain ⟨hk, hb, Pv, Nv, gT, hT, hm, hu⟩ := hs
 have hsz : B + 5 ≤ X.heap.size := by have := hb.size; omega
 have xD : ∀ b, b < B + 5 → Y.heap[b]? = X.heap[b]? := fun b hb2 => hg.block b (by omega) (fun e => by obtain ⟨h1, _⟩ := hr b e.symm; omega)
 have hcell : ∀ (b : Nat) (c : Array Value) (e : TypeId) (z : Nat × Nat), X.heap[b]? = some (Obj.cells c e z) → Y.heap[b]? = X.heap[b]? := fun b c e z hc => hg.block b (Array.getElem?_eq_some_iff.1 hc).1 (fun e2 => by
  obtain ⟨_, o, h1, h2⟩ := hr b e2.symm
  rw [hc] at h1; injection h1 with h1; subst h1; cases h2)
 refine ⟨fun b hb2 => (xD b hb2.1).trans (hk b hb2), ⟨hg.os.trans hb.os, hg.tape.trans hb.tape, hg.output.trans hb.output, Nat.le_trans hb.size hg.size, fun b hb2 => (xD b (by omega)).trans (hb.block b hb2)⟩, Pv, Nv, (xD _ (by omega)).trans gT, ?_, hm.of_block (xD _ (by omega)), hu⟩
 refine ⟨hT.cg.same fun b hb2 => ?_, hT.cG.same fun b hb2 => ?_, hT.apart, Below.refl _ _, fun _ _ _ _ => rfl, KeepsFrom.refl _ _⟩
 ·obtain ⟨c, hc⟩ := hT.cg.typed hb2; exact hcell _ _ _ _ hc
 ·obtain ⟨c, hc⟩ := hT.cG.typed hb2; exact hcell _ _ _ _ hc
theorem AW.next {n B : Nat} {A : Nat → Nat} {F : aL} {w6 W w1 We : World} (hz : w6.heap.size = B + 5) {pre : List (jL n)} {x : jL n} (hks : KS (fun b => b < B + 5 ∧ b ≠ B + 1 ∧ b ≠ B + 1 + 1) w6 W) (iV : Below (B + 1) w6 W)
  {P0 N0 : Value} (gT : W.heap[B + 1]? = some (Obj.cells #[P0, N0] 39 (0, 0))) {es : List (Option Nat × Value)} (hmp0 : gQ W (B + 1 + 1) es)
  (zK : gQ w1 (B + 1 + 1) (jO A (bW F (bY (pre ++ [x]))).mp)) (Gj : su (jO A (bW F (bY (pre ++ [x]))).mp)) (hs1 : w1.heap.size = W.heap.size) (Pr : w1.os = W.os) (Il : w1.tape = W.tape) (Im : w1.output = W.output) (hb1 : ∀ j, j ≠ B + 1 + 1 → w1.heap[j]? = W.heap[j]?)
  {Pv Nv : Value} (hT : iK (B + 5) w1 We Pv Nv (bW F (bY (pre ++ [x]))).ps (bW F (bY (pre ++ [x]))).ns) :
  KeepsFrom w6.heap.size W ((We.setCell ⟨B + 1, 0, none⟩ Pv).setCell ⟨B + 1, 1, none⟩ Nv) ∧ KN (fun b => b < B + 5 ∧ b ≠ B + 1 ∧ b ≠ B + 1 + 1) W ((We.setCell ⟨B + 1, 0, none⟩ Pv).setCell ⟨B + 1, 1, none⟩ Nv) ∧
   AW n (B + 5) (B + 1) (B + 1 + 1) A F (fun b => b < B + 5 ∧ b ≠ B + 1 ∧ b ≠ B + 1 + 1) w6 (pre ++ [x]) ((We.setCell ⟨B + 1, 0, none⟩ Pv).setCell ⟨B + 1, 1, none⟩ Nv) := by
 have b8 : ∀ b, b ≠ B + 1 → ((We.setCell ⟨B + 1, 0, none⟩ Pv).setCell ⟨B + 1, 1, none⟩ Nv).heap[b]? = We.heap[b]? := fun b hb => by rw [blk_setCell_other _ _ _ _ hb, blk_setCell_other _ _ _ _ hb]
 have hsz : ((We.setCell ⟨B + 1, 0, none⟩ Pv).setCell ⟨B + 1, 1, none⟩ Nv).heap.size = We.heap.size := by simp [World.size_setCell]
 have yB : We.heap[B + 1]? = some (Obj.cells #[P0, N0] 39 (0, 0)) := (hT.low.block (B + 1) (by omega)).trans ((hb1 _ (by omega)).trans gT)
 have hbf : ((We.setCell ⟨B + 1, 0, none⟩ Pv).setCell ⟨B + 1, 1, none⟩ Nv).heap[B + 1]? = some (Obj.cells #[Pv, Nv] 39 (0, 0)) := by
  simp [World.setCell, Array.getElem?_modify, yB]
 have Tf : KS (fun b => b < B + 5 ∧ b ≠ B + 1 ∧ b ≠ B + 1 + 1) W ((We.setCell ⟨B + 1, 0, none⟩ Pv).setCell ⟨B + 1, 1, none⟩ Nv) := fun b hb => (b8 b hb.2.1).trans ((hT.low.block b hb.1).trans (hb1 b hb.2.2))
 refine ⟨⟨?_, fun k o hk ho hc => ?_⟩, ⟨Tf, fun b c z hb => ?_⟩, hks.trans Tf, ⟨hT.low.os.trans (Pr.trans iV.os), hT.low.tape.trans (Il.trans iV.tape), hT.low.output.trans (Im.trans iV.output), ?_, fun b hb => (Tf b ⟨by omega, by omega, by omega⟩).trans (iV.block b hb)⟩, Pv, Nv, hbf, ⟨hT.cg.same fun b hb => b8 b (by have := (aD hT.cg hb).1; omega), hT.cG.same fun b hb => b8 b (by have := (aD hT.cG hb).1; omega), hT.apart, Below.refl _ _, fun _ _ _ _ => rfl, KeepsFrom.refl _ _⟩, zK.of_block ((b8 _ (by omega)).trans (hT.low.block _ (by omega))), Gj⟩
 ·rw [hsz, ← hs1]; exact hT.low.size
 ·rw [b8 k (by omega)]
  exact hT.far.same k o (by omega) ((hb1 k (by omega)).trans ho) hc
 ·have hne : b ≠ B + 1 + 1 := fun e => by
   subst e
   obtain ⟨es', ck, h1, _⟩ := hmp0
   rw [h1] at hb; cases hb
  have Nc : b ≠ B + 1 := fun e => by
   subst e
   rw [gT] at hb
   injection hb with hb
   injection hb with _ hb _
   cases hb
  rw [b8 b Nc, hT.fns b c z (by rw [hb1 b hne]; exact hb), hb1 b hne]
 ·rw [hsz]; have h1 := hT.low.size; have h2 := iV.size; omega
set_option maxHeartbeats 4000000 in
theorem Kw {n base : Nat} {A : Nat → Nat} {kv : Nat → Value} {F : aL} {rk : Nat → Nat} (hwf : Wf F n rk) (hlen : ∀ i, i < n → (F.kids i).length ≤ 1000) (w : World) (i : Nat) (hi : i < n) (hF : aR base n A kv F w) (hN : (cK F rk i none).length ≤ 100000) :
  Calls Tryz.prog 164 #[.pointer (some ⟨A i, 0, none⟩)] w (Kv w (ew F rk i)) := by
 refine (callsIn_wide (n := 9)).1 ?_
 refine callsIn_of_wp_marks Tryz.func164 rfl trivial ?_ rfl
 simp only [Tryz.ntmps164, List.size_toArray, List.length_cons, List.length_nil, Nat.reduceAdd, Nat.reduceSub, Array.replicate_succ, Array.replicate_zero, List.push_toArray, List.append_toArray, List.nil_append, List.cons_append]
 have hmm := fun W => run_makeMap (P := Tryz.prog) 229 W
 obtain ⟨w3, hw3⟩ : ∃ w3, w3 = ((w.alloc (.cells #[.slice none 0 0, .slice none 0 0] 39)).alloc (.cells #[.slice none 0 0, .slice none 0 0] 39)).alloc (.map #[] 0) := ⟨_, rfl⟩
 have b9 : Up w w3 := by rw [hw3]; exact ((Up.alloc _ _).trans (Up.alloc _ _)).trans (Up.alloc _ _)
 have hz3 : w3.heap.size = w.heap.size + 3 := by rw [hw3]; simp
 have Y5 : gQ w3 (w.heap.size + 1 + 1) [] := ⟨#[], 0, by
  rw [hw3]
  have h := blk_alloc_new ((w.alloc (.cells #[.slice none 0 0, .slice none 0 0] 39)).alloc (.cells #[.slice none 0 0, .slice none 0 0] 39)) (.map #[] 0)
  simp only [World.size_alloc] at h; exact h, rfl⟩
 have ht3 : w3.heap[w.heap.size + 1]? = some (Obj.cells #[.slice none 0 0, .slice none 0 0] 39 (0, 0)) := by
  rw [hw3, blk_alloc_lt _ _ _ (by simp)]
  have h := blk_alloc_new (w.alloc (.cells #[.slice none 0 0, .slice none 0 0] 39)) (.cells #[.slice none 0 0, .slice none 0 0] 39)
  rw [World.size_alloc] at h; exact h
 have hr3 : w3.heap[w.heap.size]? = some (Obj.cells #[.slice none 0 0, .slice none 0 0] 39 (0, 0)) := by
  rw [hw3, blk_alloc_lt _ _ _ (by simp; omega), blk_alloc_lt _ _ _ (by simp)]
  exact blk_alloc_new _ _
 obtain ⟨w4, b8, Y6, hs4, Ky, Tg, Th, hb4⟩ := Dn (P := Tryz.prog) Tryz.underlying229 Tryz.underlying124 Tryz.oI Y5 List.nodup_nil (k := none) (.int .i64 (-1)) trivial (fun x hx => by cases hx)
 have b6 : Up w w4 := ⟨Ky.trans b9.os, Tg.trans b9.tape, Th.trans b9.output, by rw [hs4]; exact b9.size, fun b hb => (hb4 b (by omega)).trans (Below.block b9 b hb)⟩
 have Y7 := (hb4 (w.heap.size + 1) (by omega)).trans ht3
 have hr4 := (hb4 w.heap.size (by omega)).trans hr3
 have Y8 : w4.heap.size = w.heap.size + 3 := hs4.trans hz3
 rw [hw3] at b8
 simp only [pk] at b8
 have jV := aa b6
 have yC := aa Y7
 have Y9 := aa hr4
 have AX := aa Y8
 have AY := aa Y6
 have HF := aa hF
 have Dk := aa hwf
 have HLEN := aa hlen
 have HN := aa hN
 clear hw3 b9 hz3 Y5 ht3 hr3 Y6 hs4 Ky Tg Th hb4 b6 Y7 hr4 Y8 hF hwf hlen hN
 gi_wp2_with fail
 refine ⟨trivial, (callsIn_wide.2 (QV _ _)).mono ?_⟩
 rintro e w6 ⟨rfl, rfl⟩
 rw [World.size_alloc, AX.out]
 gi_wp2_with fail
 have dz : Up w4 ((w4.alloc (.cells #[.map (some (w.heap.size + 1 + 1))] 229)).alloc (.cells #[.pointer (some ⟨A i, 0, none⟩)] 124)) := (Up.alloc _ _).trans (Up.alloc _ _)
 have Ti : ((w4.alloc (.cells #[.map (some (w.heap.size + 1 + 1))] 229)).alloc (.cells #[.pointer (some ⟨A i, 0, none⟩)] 124)).heap.size = w.heap.size + 5 := by simp [AX.out]
 have hx6 : ((w4.alloc (.cells #[.map (some (w.heap.size + 1 + 1))] 229)).alloc (.cells #[.pointer (some ⟨A i, 0, none⟩)] 124)).cell? ⟨w.heap.size + 3 + 1, 0, none⟩ = some (.pointer (some ⟨A i, 0, none⟩)) := by
  have h := aK (w4.alloc (.cells #[.map (some (w.heap.size + 1 + 1))] 229)) #[.pointer (some ⟨A i, 0, none⟩)] 124 0
  rw [World.size_alloc, AX.out] at h; exact h
 have hm6 : ((w4.alloc (.cells #[.map (some (w.heap.size + 1 + 1))] 229)).alloc (.cells #[.pointer (some ⟨A i, 0, none⟩)] 124)).cell? ⟨w.heap.size + 3, 0, none⟩ = some (.map (some (w.heap.size + 1 + 1))) := by
  have h := aK w4 #[.map (some (w.heap.size + 1 + 1))] 229 0
  rw [AX.out] at h
  exact (Up.alloc _ _).cell h
 have ht6 := (Below.block dz (w.heap.size + 1) (by rw [AX.out]; omega)).trans yC.out
 have hr6 := (Below.block dz w.heap.size (by rw [AX.out]; omega)).trans Y9.out
 have hp6 := AY.out.of_block (Below.block dz (w.heap.size + 1 + 1) (by rw [AX.out]; omega))
 have Za := (HF.out.up jV.out).up dz
 have Tj := jV.out.trans dz
 generalize (w4.alloc (.cells #[.map (some (w.heap.size + 1 + 1))] 229)).alloc (.cells #[.pointer (some ⟨A i, 0, none⟩)] 124) = w6 at *
 have hlt : ∀ j, j < n → A j < w.heap.size := fun j hj => HF.out.lt hj
 have hlo : ∀ j b, j < n → (kv j).ownBlock = some b → b < w.heap.size := fun j b hj hb => (HF.out.eT hj hb).2
 have hinj := HF.out.inj
 have HX := aa (show Up w w6 from Tj)
 clear dz Tj jV yC Y9 AX AY b8
 generalize hB : w.heap.size = B at *
 have HB : Hid (w.heap.size = B) := hB
 clear hB
 apply wpIn_rangeFunc_ownG (F := Fence.wide) (n := 9) (P := Tryz.prog) (ps := #[11, 12]) (w := w6) rfl (by omega) (gf := 269) (lb := #[.pointer (some ⟨B + 3 + 1, 0, none⟩)]) rfl trivial (enters_of Tryz.func269 (by kernel_rfl) rfl)
  (FJ (T := fun b => b < B + 5 ∧ b ≠ B + 1 ∧ b ≠ B + 1 + 1) Dk.out HLEN.out (fun j hj => ⟨by have := hlt j hj; omega, by have := hlt j hj; omega, by have := hlt j hj; omega⟩) (fun j b hj hb => ⟨by have := hlo j b hj hb; omega, by have := hlo j b hj hb; omega, by have := hlo j b hj hb; omega⟩) 8 (B + 3 + 1) i hi w6 (fun b hb => by rw [Ti]; exact hb.1) ⟨by omega, by omega, by omega⟩ Za hx6)
  (fun h k => KN.trans h k) (fun W l o o' hl ho hc _ => ⟨fun b hb => World.putObj_heap_other (by have := hb.1; omega), fun b c z hb => World.putObj_heap_other (fun e => by subst e; rw [hb] at ho; injection ho with ho; subst ho; cases hc)⟩) (Below.refl _ _) (fun _ => (rfl : (2 : Nat) = 2))
  (AW n (B + 5) (B + 1) (B + 1 + 1) A F (fun b => b < B + 5 ∧ b ≠ B + 1 ∧ b ≠ B + 1 + 1) w6) (fun _ _ _ => False)
 ·exact AW.own Ti
 ·exact fun _ _ _ _ _ h _ _ => h
 ·exact ⟨KS.refl _ _, Below.refl _ _, .slice none 0 0, .slice none 0 0, ht6, ⟨az.nil _ _ _, az.nil _ _ _, fun b hb => (by cases hb), Below.refl _ _, fun _ _ _ _ => rfl, KeepsFrom.refl _ _⟩, hp6, by simp [su, jO, bY, bW, zJ]⟩
 ·intro l x W K hK
  simp only [zH]
  gi_wp2
  exact hK
 ·rintro l pre x W ⟨hks, iV, Pv, Nv, gT, rB, hmp, Gj⟩ hpl
  obtain ⟨⟨x1, xp⟩, hx1, oO⟩ := x
  have aQ := aa hlt
  have Tk := aa hinj
  have hxl := hlt x1 hx1
  have Pt : aR base n A kv F W := Za.same (fun j hj => hks (A j) ⟨by have := hlt j hj; omega, by have := hlt j hj; omega, by have := hlt j hj; omega⟩) (fun j b hj hb => hks b ⟨by have := hlo j b hj hb; omega, by have := hlo j b hj hb; omega, by have := hlo j b hj hb; omega⟩)
  have hok : nO n pre.length (bW F (bY pre)) := Ik pre
  have hb0 : W.cell? ⟨B + 1, 0, none⟩ = some Pv := by simp [World.cell?, gT]
  have hmb : W.cell? ⟨B + 3, 0, none⟩ = some (.map (some (B + 1 + 1))) := by rw [World.cell?_of_block (a := ⟨B + 3, 0, none⟩) (hks (B + 3) ⟨by omega, by omega, by omega⟩)]; exact hm6
  obtain ⟨pp, pc, rfl, _⟩ := rB.cg.form (n := pre.length) (by rw [List.length_map]; exact hok.lp)
  have hkeys : ∀ z ∈ jO A (bW F (bY pre)).mp, eu W z.1 := fun z hz => by
   obtain ⟨y, hy, rfl⟩ := List.mem_map.1 hz
   obtain ⟨y1, y2⟩ := y
   cases y1 with
   | none => trivial
   | some k => exact Pt.plain (hok.keys _ hy k rfl)
  obtain ⟨w1, b8, zK, hs1, Pr, Il, Im, hb1⟩ := Dn (P := Tryz.prog) Tryz.underlying229 Tryz.underlying124 Tryz.oI hmp Gj (k := some (A x1)) (.int .i64 (pre.length : Nat)) (Pt.plain hx1) hkeys
  simp only [pk] at b8
  have Nd : pre.length ≤ 100000 := by have := HN.out; omega
  gi_wp2
  have iL : iK (B + 5) w1 w1 (.slice pp pre.length pc) Nv (bW F (bY pre)).ps (bW F (bY pre)).ns := ⟨rB.cg.same fun b hb => hb1 b (by have := (aD rB.cg hb).1; omega), rB.cG.same fun b hb => hb1 b (by have := (aD rB.cG hb).1; omega), rB.apart, Below.refl _ _, fun _ _ _ _ => rfl, KeepsFrom.refl _ _⟩
  obtain ⟨np, nc, rfl, _⟩ := rB.cG.form (n := pre.length) (by rw [List.length_map]; exact hok.ln)
  have hput : qO (jO A (bW F (bY pre)).mp) (some (A x1)) (.int .i64 (pre.length : Nat)) = jO A (bW F (bY (pre ++ [⟨(x1, xp), hx1, oO⟩]))).mp := by
   rw [rz, show bY [(⟨(x1, xp), hx1, oO⟩ : jL n)] = [(x1, xp)] from rfl, uy]
   show _ = jO A (ji (bW F (bY pre)).mp (some x1) ((bW F (bY pre)).ps.length : Nat))
   rw [hok.lp, ← Nb Tk.out (fun j hj => by cases hj; exact hx1) hok.keys]; rfl
  rw [hput] at zK
  have Tl : su (jO A (bW F (bY (pre ++ [⟨(x1, xp), hx1, oO⟩]))).mp) := by rw [← hput]; exact Ks Gj _ _
  have Nf : nO n (pre ++ [(⟨(x1, xp), hx1, oO⟩ : jL n)]).length (bW F (bY (pre ++ [⟨(x1, xp), hx1, oO⟩]))) := Ik _
  have AU : aR base n A kv F w1 := Pt.same (fun j hj => hb1 _ (by have := aQ.out j hj; omega)) (fun j b hj hb => hb1 _ (by have := hlo j b hj hb; omega))
  obtain ⟨z, hz⟩ : ∃ z : Int, z = (((bW F (bY (pre ++ [⟨(x1, xp), hx1, oO⟩]))).mp).lookup xp).getD 0 := ⟨_, rfl⟩
  have Tm : (bW F (bY (pre ++ [⟨(x1, xp), hx1, oO⟩]))).ps = (bW F (bY pre)).ps ++ [z] := by
   rw [hz, rz, show bY [(⟨(x1, xp), hx1, oO⟩ : jL n)] = [(x1, xp)] from rfl, uy]; rfl
  have Tn : (bW F (bY (pre ++ [⟨(x1, xp), hx1, oO⟩]))).ns = (bW F (bY pre)).ns ++ [F.nm x1] := by
   rw [rz, show bY [(⟨(x1, xp), hx1, oO⟩ : jL n)] = [(x1, xp)] from rfl, uy]; rfl
  have Io : Hid (∀ We P2 N2, iK (B + 5) w1 We P2 N2 ((bW F (bY pre)).ps ++ [z]) ((bW F (bY pre)).ns ++ [F.nm x1]) → KeepsFrom w6.heap.size W ((We.setCell ⟨B + 1, 0, none⟩ P2).setCell ⟨B + 1, 1, none⟩ N2) ∧ KN (fun b => b < B + 5 ∧ b ≠ B + 1 ∧ b ≠ B + 1 + 1) W ((We.setCell ⟨B + 1, 0, none⟩ P2).setCell ⟨B + 1, 1, none⟩ N2) ∧
   AW n (B + 5) (B + 1) (B + 1 + 1) A F (fun b => b < B + 5 ∧ b ≠ B + 1 ∧ b ≠ B + 1 + 1) w6 (pre ++ [⟨(x1, xp), hx1, oO⟩]) ((We.setCell ⟨B + 1, 0, none⟩ P2).setCell ⟨B + 1, 1, none⟩ N2)) := fun We P2 N2 hT => AW.next Ti hks iV gT hmp zK Tl hs1 Pr Il Im hb1 (by rw [Tm, Tn]; exact hT)
  have hb0 : w1.heap[B + 1]? = some (Obj.cells #[.slice pp pre.length pc, .slice np pre.length nc] 39 (0, 0)) := (hb1 _ (by omega)).trans gT
  have fU : Hid (∀ w', KS (fun b => b < B + 5) w1 w' → w'.cell? ⟨B + 1, 0, none⟩ = some (.slice pp pre.length pc) ∧ w'.cell? ⟨B + 1, 1, none⟩ = some (.slice np pre.length nc) ∧ w'.cell? ⟨B + 3, 0, none⟩ = some (.map (some (B + 1 + 1))) ∧ w'.cell? ⟨A x1, 0, none⟩ = some (.string (F.nm x1)) ∧ (Instr.lookup 229 (.map (some (B + 1 + 1))) (optr A xp) false).run Tryz.prog w' = .ok (.int .i64 z) w') := fun w' hS => by
   refine ⟨?_, ?_, ?_, ?_, ?_⟩
   ·simp [World.cell?, (hS (B + 1) (by omega)).trans hb0]
   ·simp [World.cell?, (hS (B + 1) (by omega)).trans hb0]
   ·rw [World.cell?_of_block (a := ⟨B + 3, 0, none⟩) ((hS (B + 3) (by show B + 3 < B + 5; omega)).trans (hb1 (B + 3) (by omega)))]; exact hmb
   ·rw [World.cell?_of_block (a := ⟨A x1, 0, none⟩) (hS (A x1) (by show A x1 < B + 5; omega))]; exact AU.name hx1
   ·have hpl : ∀ j, j < n → Plain w' (A j) := fun j hj => (AU.plain hj).of_block (hS _ (by have := aQ.out j hj; show A j < B + 5; omega))
    have h := Kt (P := Tryz.prog) (w := w') Tryz.underlying229 Tryz.underlying124 Tryz.oI (z := .int .i64 0) Tryz.zeroValue3 (zK.of_block (hS _ (by show B + 1 + 1 < B + 5; omega))) (k := xp.map A)
     (by cases xp with | none => trivial | some k => exact hpl k (oO k rfl)) (fun zz hzz => by
      obtain ⟨y, hy, rfl⟩ := List.mem_map.1 hzz
      obtain ⟨y1, y2⟩ := y
      cases y1 with
      | none => trivial
      | some k => exact hpl k (Nf.keys _ hy k rfl))
    rw [wK Tk.out (fun j hj => oO j hj) Nf.keys] at h
    have e1 : pk (xp.map A) = optr A xp := by cases xp <;> rfl
    have e2 : ((((bW F (bY (pre ++ [⟨(x1, xp), hx1, oO⟩]))).mp).lookup xp).map (Value.int .i64)).getD (.int .i64 0) = .int .i64 z := by rw [hz]; cases List.lookup xp (bW F (bY (pre ++ [⟨(x1, xp), hx1, oO⟩]))).mp <;> rfl
    rw [e1, e2] at h; exact h
  have Gk : Hid (∀ w', KS (fun b => b < B + 5) w1 w' → ∀ o, w'.frozen? ⟨B + 1, o, none⟩ = false) := fun w' hS o => by simp [World.frozen?, (hS (B + 1) (by omega)).trans hb0]
  have Pu : Hid (iK (B + 5) w1 w1.drew (.slice pp pre.length pc) (.slice np pre.length nc) (bW F (bY pre)).ps (bW F (bY pre)).ns) := iL.up (Up.drewN w1 1) (by rw [hs1]; have := iV.size; omega)
  have kK : Hid ((bW F (bY pre)).ps.length = pre.length ∧ (bW F (bY pre)).ns.length = pre.length) := ⟨hok.lp, hok.ln⟩
  have Pw : B + 5 ≤ w1.drew.heap.size := by show B + 5 ≤ w1.heap.size; rw [hs1]; have := iV.size; omega
  have HFW1 := aa AU
  clear hput iL rB Gj Tl hok Nf Tm Tn hb0 AU Pt hmp zK b8 hks iV gT hkeys hmb hz hb1 hs1 Pr Il Im hlt hlo hinj
  generalize (bW F (bY pre)).ps = PS at *
  generalize (bW F (bY pre)).ns = NS at *
  generalize F.nm x1 = nm at *
  refine M6 (by kernel_rfl) 15 (KS (fun b => b < B + 5) w1) (KS.refl _ _) (fun hS => ?_)
  simp only [List.size_toArray, List.length_cons, List.length_nil, Nat.reduceAdd, Array.replicate_succ, Array.replicate_zero, List.push_toArray, List.nil_append, List.cons_append]
  generalize w1.drew = Wd at *
  refine aY.take (i := 0) (v := ?Ke) rfl (by kernel_rfl) (fun _ _ _ h => h) (by rfl) (fun _ => rfl) (fun w hSw => ?ur) hS ?Kf
  case ur =>
   obtain ⟨q1, q2, q3, q4, q5⟩ := fU.out w hSw
   go_simp
   try with_reducible rfl
  try simp only [Act.put, ah, aj, aq]
  refine aY.take (i := 1) (v := ?Kg) rfl (by kernel_rfl) (fun _ _ _ h => h) (by rfl) (fun _ => rfl) (fun w hSw => ?uu) hS ?Kh
  case uu =>
   obtain ⟨q1, q2, q3, q4, q5⟩ := fU.out w hSw
   go_simp
   try with_reducible rfl
  try simp only [Act.put, ah, aj, aq]
  refine aY.take (i := 2) (v := ?Ki) rfl (by kernel_rfl) (fun _ _ _ h => h) (by rfl) (fun _ => rfl) (fun w hSw => ?uv) hS ?Kj
  case uv =>
   obtain ⟨q1, q2, q3, q4, q5⟩ := fU.out w hSw
   go_simp
   try with_reducible rfl
  try simp only [Act.put, ah, aj, aq]
  refine aY.take (i := 3) (v := ?SK) rfl (by kernel_rfl) (fun _ _ _ h => h) (by rfl) (fun _ => rfl) (fun w hSw => ?C8) hS ?SL
  case C8 =>
   obtain ⟨q1, q2, q3, q4, q5⟩ := fU.out w hSw
   go_simp
   try with_reducible rfl
  try simp only [Act.put, ah, aj, aq]
  refine aY.take (i := 4) (v := ?SM) rfl (by kernel_rfl) (fun _ _ _ h => h) (by rfl) (fun _ => rfl) (fun w hSw => ?C9) hS ?SN
  case C9 =>
   obtain ⟨q1, q2, q3, q4, q5⟩ := fU.out w hSw
   go_simp
   try with_reducible rfl
  try simp only [Act.put, ah, aj, aq]
  refine aY.take (i := 7) (v := ?Pj) rfl (by kernel_rfl) (fun _ _ _ h => h) (by rfl) (fun _ => rfl) (fun w hSw => ?yx) hS ?Pk
  case yx =>
   obtain ⟨q1, q2, q3, q4, q5⟩ := fU.out w hSw
   go_simp
   try with_reducible rfl
  try simp only [Act.put, ah, aj, aq]
  refine aY.take (i := 8) (v := ?Pm) rfl (by kernel_rfl) (fun _ _ _ h => h) (by rfl) (fun _ => rfl) (fun w hSw => ?yy) hS ?Pn
  case yy =>
   obtain ⟨q1, q2, q3, q4, q5⟩ := fU.out w hSw
   go_simp
   try with_reducible rfl
  try simp only [Act.put, ah, aj, aq]
  refine aY.take (i := 9) (v := ?Po) rfl (by kernel_rfl) (fun _ _ _ h => h) (by rfl) (fun _ => rfl) (fun w hSw => ?yz) hS ?Pp
  case yz =>
   obtain ⟨q1, q2, q3, q4, q5⟩ := fU.out w hSw
   go_simp
   try with_reducible rfl
  try simp only [Act.put, ah, aj, aq]
  refine aY.take (i := 10) (v := ?MT) rfl (by kernel_rfl) (fun _ _ _ h => h) (by rfl) (fun _ => rfl) (fun w hSw => ?xy) hS ?MU
  case xy =>
   obtain ⟨q1, q2, q3, q4, q5⟩ := fU.out w hSw
   go_simp
   try with_reducible rfl
  try simp only [Act.put, ah, aj, aq]
  refine aY.take (i := 11) (v := ?SU) rfl (by kernel_rfl) (fun _ _ _ h => h) (by rfl) (fun _ => rfl) (fun w hSw => ?Dc) hS ?SV
  case Dc =>
   obtain ⟨q1, q2, q3, q4, q5⟩ := fU.out w hSw
   go_simp
   try with_reducible rfl
  try simp only [Act.put, ah, aj, aq]
  refine aY.take (i := 12) (v := ?SX) rfl (by kernel_rfl) (fun _ _ _ h => h) (by rfl) (fun _ => rfl) (fun w hSw => ?Dd) hS ?SY
  case Dd =>
   obtain ⟨q1, q2, q3, q4, q5⟩ := fU.out w hSw
   go_simp
   try with_reducible rfl
  try simp only [Act.put, ah, aj, aq]
  refine aY.vB (i := 5) (i2 := 13) rfl rfl (by kernel_rfl) (fun K' hK => ?_) (fun K' hK => ?_)
  ·go_simp
   have Dp : Hid (iK (B + 5) w1 (Wd.alloc (.cells #[.int .i64 z] 3)) _ _ _ _) := Pu.out.up (Up.alloc _ _) Pw
   have AZ : B + 5 ≤ (Wd.alloc (.cells #[.int .i64 z] 3)).heap.size := Nat.le_trans Pw (Up.alloc _ _).size
   refine hK.out _ _ (fun _ => Dp.out.low.block) (fun _ => ?_)
   try simp only [ah, aj, aq]
   refine aY.vB (i := 6) (i2 := 13) rfl rfl (by kernel_rfl) (fun K' hK => ?_) (fun K' hK => ?_)
   ·refine jy (by rfl) _ _ _ (by rfl) (B + 5) 3 _ 8 Tryz.underlying26 Tryz.jx (by rfl) (by decide) (by rfl) Dp.out.cg (.int .i64 z) Wd.heap.size (by rfl) (aK Wd #[.int .i64 z] 3 0) (by rfl) (by rw [List.length_map, kK.out.1]; omega) AZ ?_
    intro g1 Kz iM oQ iT hrg1 _
    have uz : Hid (iK (B + 5) w1 iM _ _ _ _) := Dp.out.xB AZ oQ iT (hrg1.imp id (fun e => Nat.le_of_eq e.symm))
    have wL : B + 5 ≤ iM.heap.size := Nat.le_trans AZ iT.size
    refine hK.out _ _ (fun _ => uz.out.low.block) (fun _ => ?_)
    try simp only [Act.put, ah, aj, aq]
    refine aY.free (i := 15) (v := ?WG) rfl (by kernel_rfl) (fun _ _ _ h => h) (by rfl) (fun _ => rfl) (fun w => ?Ip) (fun _ => uz.out.low.block) ?WH
    case Ip =>
     go_simp
     try with_reducible rfl
    try simp only [Act.put, ah, aj, aq]
    refine aY.step (i := 13) rfl (by kernel_rfl) (fun K' hK => ?_)
    go_simp
    have rC : Hid (iK (B + 5) w1 (iM.alloc (.cells #[.string nm] 9)) _ _ _ _) := uz.out.up (Up.alloc _ _) wL
    have uA : B + 5 ≤ (iM.alloc (.cells #[.string nm] 9)).heap.size := Nat.le_trans wL (Up.alloc _ _).size
    refine hK.out _ _ (fun _ => rC.out.low.block) (fun _ => ?_)
    try simp only [ah, aj, aq]
    refine aY.step (i := 14) rfl (by kernel_rfl) (fun K' hK => ?_)
    refine jy (by rfl) _ _ _ (by rfl) (B + 5) 9 _ 16 Tryz.underlying22 Tryz.zI (by rfl) (by decide) (by rfl) rC.out.cG (.string nm) iM.heap.size (by rfl) (aK iM #[.string nm] 9 0) (by rfl) (by rw [List.length_map, kK.out.2]; omega) uA ?_
    intro g2 KA dJ oT lq hrg2 _
    have kL : Hid (iK (B + 5) w1 dJ _ _ _ _) := rC.out.xC uA oT lq (hrg2.imp id (fun e => Nat.le_of_eq e.symm))
    have Zb : B + 5 ≤ dJ.heap.size := Nat.le_trans uA lq.size
    refine hK.out _ _ (fun _ => kL.out.low.block) (fun _ => ?_)
    try simp only [Act.put, ah, aj, aq]
    have yB : dJ.cell? ⟨B + 1, 0, none⟩ = some (.slice pp pre.length pc) := (fU.out dJ kL.out.low.block).1
    have lu : dJ.cell? ⟨B + 1, 1, none⟩ = some (.slice np pre.length nc) := (fU.out dJ kL.out.low.block).2.1
    have KB : dJ.frozen? ⟨B + 1, 0, none⟩ = false := Gk.out dJ kL.out.low.block 0
    have Dq : dJ.frozen? ⟨B + 1, 1, none⟩ = false := Gk.out dJ kL.out.low.block 1
    have lz := aa (Io.out dJ _ _ kL.out)
    refine aY.step (i := 16) rfl (by kernel_rfl) (fun K' hK => ?_)
    go_simp
    refine hK.out _ _ (aJ (by kernel_rfl)) (fun _ => ?_)
    try simp only [ah, aj, aq]
    refine aY.free (i := 17) (v := ?gv17a) rfl (by kernel_rfl) (fun _ _ _ h => h) (by rfl) (fun _ => rfl) (fun w => ?WI) (aJ (by kernel_rfl)) ?gr17a
    case WI =>
     go_simp
     try with_reducible rfl
    try simp only [Act.put, ah, aj, aq]
    refine aY.step (i := 18) rfl (by kernel_rfl) (fun K' hK => ?_)
    go_simp
    refine hK.out _ _ (aJ (by kernel_rfl)) (fun _ => ?_)
    refine aY.done (by kernel_rfl) ?_
    gi_wp2
    have cD := lz.out
    simp only [List.length_map] at cD
    exact cD
   ·go_simp
    have uz : Hid (iK (B + 5) w1 ((Wd.alloc (.cells #[.int .i64 z] 3)).alloc (.cells #[.string nm] 9)) _ _ _ _) := Dp.out.up (Up.alloc _ _) AZ
    have wL : B + 5 ≤ ((Wd.alloc (.cells #[.int .i64 z] 3)).alloc (.cells #[.string nm] 9)).heap.size := Nat.le_trans AZ (Up.alloc _ _).size
    refine hK.out _ _ (fun _ => uz.out.low.block) (fun _ => ?_)
    try simp only [ah, aj, aq]
    have nE := aK (Wd.alloc (.cells #[.int .i64 z] 3)) #[.string nm] 9 0
    have kZ := (Up.alloc (Wd.alloc (.cells #[.int .i64 z] 3)) (.cells #[.string nm] 9)).cell (aK Wd #[.int .i64 z] 3 0)
    rw [World.size_alloc] at nE
    refine aY.step (i := 6) rfl (by kernel_rfl) (fun K' hK => ?_)
    refine jy (by rfl) _ _ _ (by rfl) (B + 5) 3 _ 8 Tryz.underlying26 Tryz.jx (by rfl) (by decide) (by rfl) uz.out.cg (.int .i64 z) Wd.heap.size (by rfl) kZ (by rfl) (by rw [List.length_map, kK.out.1]; omega) wL ?_
    intro g1 Kz iM oQ iT hrg1 _
    have rC : Hid (iK (B + 5) w1 iM _ _ _ _) := uz.out.xB wL oQ iT (hrg1.imp id (fun e => Nat.le_of_eq e.symm))
    have uA : B + 5 ≤ iM.heap.size := Nat.le_trans wL iT.size
    have oB : iM.cell? ⟨Wd.heap.size + 1, 0, none⟩ = some (.string nm) := by
     rw [iT.cell_far ⟨Wd.heap.size + 1, 0, none⟩ (by simp) (fun e => absurd (aD Pu.out.cg e.symm).2 (by show ¬ (Wd.heap.size + 1 < Wd.heap.size); omega))]; exact nE
    refine hK.out _ _ (fun _ => rC.out.low.block) (fun _ => ?_)
    try simp only [Act.put, ah, aj, aq]
    refine aY.free (i := 15) (v := ?WJ) rfl (by kernel_rfl) (fun _ _ _ h => h) (by rfl) (fun _ => rfl) (fun w => ?Iq) (fun _ => rC.out.low.block) ?WK
    case Iq =>
     go_simp
     try with_reducible rfl
    try simp only [Act.put, ah, aj, aq]
    refine aY.step (i := 14) rfl (by kernel_rfl) (fun K' hK => ?_)
    refine jy (by rfl) _ _ _ (by rfl) (B + 5) 9 _ 16 Tryz.underlying22 Tryz.zI (by rfl) (by decide) (by rfl) rC.out.cG (.string nm) (Wd.heap.size + 1) (by rfl) oB (by rfl) (by rw [List.length_map, kK.out.2]; omega) uA ?_
    intro g2 KA dJ oT lq hrg2 _
    have kL : Hid (iK (B + 5) w1 dJ _ _ _ _) := rC.out.xC uA oT lq (hrg2.imp id (fun e => Nat.le_of_eq e.symm))
    have Zb : B + 5 ≤ dJ.heap.size := Nat.le_trans uA lq.size
    refine hK.out _ _ (fun _ => kL.out.low.block) (fun _ => ?_)
    try simp only [Act.put, ah, aj, aq]
    have yB : dJ.cell? ⟨B + 1, 0, none⟩ = some (.slice pp pre.length pc) := (fU.out dJ kL.out.low.block).1
    have lu : dJ.cell? ⟨B + 1, 1, none⟩ = some (.slice np pre.length nc) := (fU.out dJ kL.out.low.block).2.1
    have KB : dJ.frozen? ⟨B + 1, 0, none⟩ = false := Gk.out dJ kL.out.low.block 0
    have Dq : dJ.frozen? ⟨B + 1, 1, none⟩ = false := Gk.out dJ kL.out.low.block 1
    have lz := aa (Io.out dJ _ _ kL.out)
    refine aY.step (i := 16) rfl (by kernel_rfl) (fun K' hK => ?_)
    go_simp
    refine hK.out _ _ (aJ (by kernel_rfl)) (fun _ => ?_)
    try simp only [ah, aj, aq]
    refine aY.free (i := 17) (v := ?gv17b) rfl (by kernel_rfl) (fun _ _ _ h => h) (by rfl) (fun _ => rfl) (fun w => ?WL) (aJ (by kernel_rfl)) ?gr17b
    case WL =>
     go_simp
     try with_reducible rfl
    try simp only [Act.put, ah, aj, aq]
    refine aY.step (i := 18) rfl (by kernel_rfl) (fun K' hK => ?_)
    go_simp
    refine hK.out _ _ (aJ (by kernel_rfl)) (fun _ => ?_)
    refine aY.done (by kernel_rfl) ?_
    gi_wp2
    have cD := lz.out
    simp only [List.length_map] at cD
    exact cD
  ·go_simp
   have Dp : Hid (iK (B + 5) w1 (Wd.alloc (.cells #[.string nm] 9)) _ _ _ _) := Pu.out.up (Up.alloc _ _) Pw
   have AZ : B + 5 ≤ (Wd.alloc (.cells #[.string nm] 9)).heap.size := Nat.le_trans Pw (Up.alloc _ _).size
   refine hK.out _ _ (fun _ => Dp.out.low.block) (fun _ => ?_)
   try simp only [ah, aj, aq]
   refine aY.step (i := 5) rfl (by kernel_rfl) (fun K' hK => ?_)
   go_simp
   have uz : Hid (iK (B + 5) w1 ((Wd.alloc (.cells #[.string nm] 9)).alloc (.cells #[.int .i64 z] 3)) _ _ _ _) := Dp.out.up (Up.alloc _ _) AZ
   have wL : B + 5 ≤ ((Wd.alloc (.cells #[.string nm] 9)).alloc (.cells #[.int .i64 z] 3)).heap.size := Nat.le_trans AZ (Up.alloc _ _).size
   refine hK.out _ _ (fun _ => uz.out.low.block) (fun _ => ?_)
   try simp only [ah, aj, aq]
   have kZ := aK (Wd.alloc (.cells #[.string nm] 9)) #[.int .i64 z] 3 0
   have nE := (Up.alloc (Wd.alloc (.cells #[.string nm] 9)) (.cells #[.int .i64 z] 3)).cell (aK Wd #[.string nm] 9 0)
   rw [World.size_alloc] at kZ
   refine aY.step (i := 6) rfl (by kernel_rfl) (fun K' hK => ?_)
   refine jy (by rfl) _ _ _ (by rfl) (B + 5) 3 _ 8 Tryz.underlying26 Tryz.jx (by rfl) (by decide) (by rfl) uz.out.cg (.int .i64 z) (Wd.heap.size + 1) (by rfl) kZ (by rfl) (by rw [List.length_map, kK.out.1]; omega) wL ?_
   intro g1 Kz iM oQ iT hrg1 _
   have rC : Hid (iK (B + 5) w1 iM _ _ _ _) := uz.out.xB wL oQ iT (hrg1.imp id (fun e => Nat.le_of_eq e.symm))
   have uA : B + 5 ≤ iM.heap.size := Nat.le_trans wL iT.size
   have oB : iM.cell? ⟨Wd.heap.size, 0, none⟩ = some (.string nm) := by
    rw [iT.cell_far ⟨Wd.heap.size, 0, none⟩ (by simp; omega) (fun e => absurd (aD Pu.out.cg e.symm).2 (by show ¬ (Wd.heap.size < Wd.heap.size); omega))]; exact nE
   refine hK.out _ _ (fun _ => rC.out.low.block) (fun _ => ?_)
   try simp only [Act.put, ah, aj, aq]
   refine aY.free (i := 15) (v := ?WM) rfl (by kernel_rfl) (fun _ _ _ h => h) (by rfl) (fun _ => rfl) (fun w => ?Ir) (fun _ => rC.out.low.block) ?WN
   case Ir =>
    go_simp
    try with_reducible rfl
   try simp only [Act.put, ah, aj, aq]
   refine aY.step (i := 14) rfl (by kernel_rfl) (fun K' hK => ?_)
   refine jy (by rfl) _ _ _ (by rfl) (B + 5) 9 _ 16 Tryz.underlying22 Tryz.zI (by rfl) (by decide) (by rfl) rC.out.cG (.string nm) Wd.heap.size (by rfl) oB (by rfl) (by rw [List.length_map, kK.out.2]; omega) uA ?_
   intro g2 KA dJ oT lq hrg2 _
   have kL : Hid (iK (B + 5) w1 dJ _ _ _ _) := rC.out.xC uA oT lq (hrg2.imp id (fun e => Nat.le_of_eq e.symm))
   have Zb : B + 5 ≤ dJ.heap.size := Nat.le_trans uA lq.size
   refine hK.out _ _ (fun _ => kL.out.low.block) (fun _ => ?_)
   try simp only [Act.put, ah, aj, aq]
   have yB : dJ.cell? ⟨B + 1, 0, none⟩ = some (.slice pp pre.length pc) := (fU.out dJ kL.out.low.block).1
   have lu : dJ.cell? ⟨B + 1, 1, none⟩ = some (.slice np pre.length nc) := (fU.out dJ kL.out.low.block).2.1
   have KB : dJ.frozen? ⟨B + 1, 0, none⟩ = false := Gk.out dJ kL.out.low.block 0
   have Dq : dJ.frozen? ⟨B + 1, 1, none⟩ = false := Gk.out dJ kL.out.low.block 1
   have lz := aa (Io.out dJ _ _ kL.out)
   refine aY.step (i := 16) rfl (by kernel_rfl) (fun K' hK => ?_)
   go_simp
   refine hK.out _ _ (aJ (by kernel_rfl)) (fun _ => ?_)
   try simp only [ah, aj, aq]
   refine aY.free (i := 17) (v := ?gv17c) rfl (by kernel_rfl) (fun _ _ _ h => h) (by rfl) (fun _ => rfl) (fun w => ?WO) (aJ (by kernel_rfl)) ?gr17c
   case WO =>
    go_simp
    try with_reducible rfl
   try simp only [Act.put, ah, aj, aq]
   refine aY.step (i := 18) rfl (by kernel_rfl) (fun K' hK => ?_)
   go_simp
   refine hK.out _ _ (aJ (by kernel_rfl)) (fun _ => ?_)
   refine aY.done (by kernel_rfl) ?_
   gi_wp2
   have cD := lz.out
   simp only [List.length_map] at cD
   exact cD
 ·rintro D xs W hD hS ⟨hks, iV, Pv, Nv, gT, rB, hmp, Gj⟩ hK
  have hb0 : W.cell? ⟨B + 1, 0, none⟩ = some Pv := by simp [World.cell?, gT]
  have hb1 : W.cell? ⟨B + 1, 1, none⟩ = some Nv := by simp [World.cell?, gT]
  have wM : W.heap[B]? = some (Obj.cells #[.slice none 0 0, .slice none 0 0] 39 (0, 0)) := (hks B ⟨by omega, by omega, by omega⟩).trans hr6
  have hok : nO n xs.length (bW F (bY xs)) := Ik xs
  obtain ⟨pp, pc, rfl, _⟩ := rB.cg.form (n := xs.length) (by rw [List.length_map]; exact hok.lp)
  obtain ⟨np, nc, rfl, _⟩ := rB.cG.form (n := xs.length) (by rw [List.length_map]; exact hok.ln)
  have iX : W.cell? ⟨B, 0, none⟩ = some (.slice none 0 0) := by simp [World.cell?, wM]
  have hr1 : W.cell? ⟨B, 1, none⟩ = some (.slice none 0 0) := by simp [World.cell?, wM]
  have Gl : W.frozen? ⟨B, 0, none⟩ = false := by simp [World.frozen?, wM]
  have rD : W.frozen? ⟨B, 1, none⟩ = false := by simp [World.frozen?, wM]
  gi_wp2_with fail
  have Tp : D ≠ B := by omega
  have hK2 : ((W.setCell ⟨B, 0, none⟩ (.slice pp xs.length pc)).setCell ⟨B, 1, none⟩ (.slice np xs.length nc)).heap[D]? = some (.deferred (some [])) := by
   rw [blk_setCell_other _ _ _ _ Tp, blk_setCell_other _ _ _ _ Tp]; exact hK
  refine ⟨by simp, .inl ⟨_, _, rfl, run_takeDeferred hK2, ?_⟩⟩
  have hheap : ((W.setCell ⟨B, 0, none⟩ (.slice pp xs.length pc)).setCell ⟨B, 1, none⟩ (.slice np xs.length nc)).heap[B]? = some (Obj.cells #[.slice pp xs.length pc, .slice np xs.length nc] 39 (0, 0)) := by
   simp [World.setCell, Array.getElem?_modify, wM]
  have hq : ∀ b, b ≠ D → (((W.setCell ⟨B, 0, none⟩ (.slice pp xs.length pc)).setCell ⟨B, 1, none⟩ (.slice np xs.length nc)).putObj D (.deferred none)).heap[b]? = ((W.setCell ⟨B, 0, none⟩ (.slice pp xs.length pc)).setCell ⟨B, 1, none⟩ (.slice np xs.length nc)).heap[b]? := fun b hb => World.putObj_heap_other hb
  have KC := (hq B (Ne.symm Tp)).trans hheap
  have Tq : ∀ b, b ≠ B → ((W.setCell ⟨B, 0, none⟩ (.slice pp xs.length pc)).setCell ⟨B, 1, none⟩ (.slice np xs.length nc)).heap[b]? = W.heap[b]? := fun b hb => by rw [blk_setCell_other _ _ _ _ hb, blk_setCell_other _ _ _ _ hb]
  have hsz : (((W.setCell ⟨B, 0, none⟩ (.slice pp xs.length pc)).setCell ⟨B, 1, none⟩ (.slice np xs.length nc)).putObj D (.deferred none)).heap.size = W.heap.size := by simp [World.size_setCell]
  have hos : (((W.setCell ⟨B, 0, none⟩ (.slice pp xs.length pc)).setCell ⟨B, 1, none⟩ (.slice np xs.length nc)).putObj D (.deferred none)).os = W.os ∧ (((W.setCell ⟨B, 0, none⟩ (.slice pp xs.length pc)).setCell ⟨B, 1, none⟩ (.slice np xs.length nc)).putObj D (.deferred none)).tape = W.tape ∧ (((W.setCell ⟨B, 0, none⟩ (.slice pp xs.length pc)).setCell ⟨B, 1, none⟩ (.slice np xs.length nc)).putObj D (.deferred none)).output = W.output := ⟨rfl, rfl, rfl⟩
  generalize ((W.setCell ⟨B, 0, none⟩ (.slice pp xs.length pc)).setCell ⟨B, 1, none⟩ (.slice np xs.length nc)).putObj D (.deferred none) = We at *
  have hc0 : We.cell? ⟨B, 0, none⟩ = some (.slice pp xs.length pc) := by simp [World.cell?, KC]
  have hc1 : We.cell? ⟨B, 1, none⟩ = some (.slice np xs.length nc) := by simp [World.cell?, KC]
  have hown : ∀ {e : TypeId} {v : Value} {vs : List Value}, az (B + 5) e W v vs → az (B + 5) e We v vs := fun ho => ho.same fun b hb => by
   have h1 := (aD ho hb).1
   obtain ⟨c, hc⟩ := ho.typed hb
   have hbD : b ≠ D := fun e => by subst e; rw [hK] at hc; cases hc
   rw [hq b hbD, Tq b (by omega)]
  refine ⟨.agg #[.slice pp xs.length pc, .slice np xs.length nc], by simp [results, Tryz.results164, go_sem, hc0, hc1], ?_, _, rfl, .slice pp xs.length pc, .slice np xs.length nc, rfl, ?_, ?_⟩
  ·have hX := HX.out
   have hBw := HB.out
   refine ⟨hos.1.trans (iV.os.trans hX.os), hos.2.1.trans (iV.tape.trans hX.tape), hos.2.2.trans (iV.output.trans hX.output), ?_, fun b hb => ?_⟩
   ·rw [hsz]; have h1 := hX.size; have h2 := iV.size; omega
   ·rw [hBw] at hb
    rw [hq b (by omega), Tq b (by omega), iV.block b (by omega)]
    exact Below.block hX b (by rw [hBw]; exact hb)
  ·show ax (fun b => w.heap.size ≤ b) We _ (bW F (cK F rk i none)).ps
   rw [← hS, HB.out]
   exact (hown rB.cg).ints.sub fun b (hb : B + 5 ≤ b) _ => (by omega : B ≤ b)
  ·show au (fun b => w.heap.size ≤ b) We _ (bW F (cK F rk i none)).ns
   rw [← hS, HB.out]
   exact (hown rB.cG).strs.sub fun b (hb : B + 5 ≤ b) _ => (by omega : B ≤ b)
 ·rintro D c pre W _ _ h _
  exact h.elim
end Go.Proofs.YteegefnjnikngaaGreat
