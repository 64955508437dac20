/- The contract of phylotree.tree. -/
import Derived.Test.YtpjijbophjdgaaaGreatQ10
import Derived.Test.YtpjijbophjdgaaaGreatQ12
import Derived.RangeFuncWrites
namespace Go.Proofs.YtpjijbophjdgaaaGreat
open Go.RowKit Go.Shelf Go.Deep
attribute [local go_sem] Oper.semAt_some
theorem Tryz.infoStr : (Tryz.prog.info? 9).map (fun i => (i.zero, i.size, i.bytes)) = some (some (.string ⟨#[]⟩), 1, 16) := by kernel_rfl
def putI (l : List (Option Nat × Int)) (k : Option Nat) (v : Int) : List (Option Nat × Int) := if (l.lookup k).isNone then l ++ [(k, v)] else l.map fun x => if x.1 = k then (k, v) else x
structure Num where
  mp : List (Option Nat × Int)
  ps : List Int
  ns : List ByteArray
def numS (F : Frs) (s : Num) (x : Nat × Option Nat) : Num :=
  ⟨putI s.mp (some x.1) s.ps.length, s.ps ++ [((putI s.mp (some x.1) s.ps.length).lookup x.2).getD 0], s.ns ++ [F.nm x.1]⟩
def num0 : Num := ⟨[(none, -1)], [], []⟩
def numL (F : Frs) (l : List (Nat × Option Nat)) : Num := l.foldl (numS F) num0
theorem numL_snoc (F : Frs) (l : List (Nat × Option Nat)) (x : Nat × Option Nat) : numL F (l ++ [x]) = numS F (numL F l) x := by simp [numL]
def treeF (F : Frs) (rk : Nat → Nat) (i : Nat) : Tre := ⟨(numL F (seqF F rk i none)).ps, (numL F (seqF F rk i none)).ns⟩
def entA (A : Nat → Nat) (l : List (Option Nat × Int)) : List (Option Nat × Value) := l.map fun x => (x.1.map A, .int .i64 x.2)
def KeysIn (n : Nat) (l : List (Option Nat × Int)) : Prop := ∀ x ∈ l, ∀ k, x.1 = some k → k < n
theorem map_inj {A : Nat → Nat} {n : Nat} (hinj : ∀ i j, i < n → j < n → A i = A j → i = j) {x y : Option Nat} (hx : ∀ k, x = some k → k < n) (hy : ∀ k, y = some k → k < n) (h : x.map A = y.map A) : x = y := by
  cases x with
  | none => cases y with
    | none => rfl
    | some b => cases h
  | some a => cases y with
    | none => cases h
    | some b =>
      simp only [Option.map_some, Option.some.injEq] at h
      rw [hinj a b (hx a rfl) (hy b rfl) h]
theorem entA_lookup {A : Nat → Nat} {n : Nat} (hinj : ∀ i j, i < n → j < n → A i = A j → i = j) {k : Option Nat} (hk : ∀ j, k = some j → j < n) : ∀ {l : List (Option Nat × Int)}, KeysIn n l → (entA A l).lookup (k.map A) = (l.lookup k).map (Value.int .i64) := by
  intro l
  induction l with
  | nil => intro _; rfl
  | cons x l ih =>
    intro hl
    obtain ⟨x1, x2⟩ := x
    have hl2 : KeysIn n l := fun z hz => hl z (by simp [hz])
    show List.lookup (k.map A) ((x1.map A, Value.int .i64 x2) :: entA A l) = _
    rw [List.lookup_cons, List.lookup_cons]
    by_cases h : k = x1
    · subst h; simp
    · have h1 : (k == x1) = false := by simpa using h
      have h2 : (k.map A == x1.map A) = false := by
        simp only [beq_eq_false_iff_ne, ne_eq]
        exact fun e => h (map_inj hinj hk (fun j hj => hl (x1, x2) (by simp) j hj) e)
      rw [h1, h2]; exact ih hl2
theorem entA_put {A : Nat → Nat} {n : Nat} (hinj : ∀ i j, i < n → j < n → A i = A j → i = j) {k : Option Nat} (hk : ∀ j, k = some j → j < n) {l : List (Option Nat × Int)} (hl : KeysIn n l) (v : Int) : putL (entA A l) (k.map A) (.int .i64 v) = entA A (putI l k v) := by
  unfold putL putI
  rw [entA_lookup hinj hk hl]
  cases h : l.lookup k with
  | none => simp [entA]
  | some y =>
    simp only [Option.map_some, Option.isNone_some, Bool.false_eq_true, if_false]
    unfold entA
    rw [List.map_map, List.map_map]
    refine List.map_congr_left fun x hx => ?_
    show (if x.1.map A = k.map A then (k.map A, Value.int .i64 v) else (x.1.map A, Value.int .i64 x.2)) = ((if x.1 = k then (k, v) else x).1.map A, Value.int .i64 (if x.1 = k then (k, v) else x).2)
    by_cases e : x.1 = k
    · rw [if_pos (by rw [e]), if_pos e]
    · rw [if_neg (fun e2 => e (map_inj hinj (fun j hj => hl x hx j hj) hk e2)), if_neg e]
theorem putI_keys {n : Nat} {l : List (Option Nat × Int)} (hl : KeysIn n l) {k : Option Nat} (hk : ∀ j, k = some j → j < n) (v : Int) : KeysIn n (putI l k v) := by
  intro x hx
  unfold putI at hx
  split at hx
  · rcases List.mem_append.1 hx with h | h
    · exact hl x h
    · have : x = (k, v) := by simpa using h
      subst this; exact hk
  · obtain ⟨y, hy, e⟩ := List.mem_map.1 hx
    split at e
    · subst e; exact hk
    · subst e; exact hl y hy
structure NumOk (n m : Nat) (s : Num) : Prop where
  keys : KeysIn n s.mp
  lp : s.ps.length = m
  ln : s.ns.length = m
theorem NumOk.step {n m : Nat} {s : Num} {F : Frs} (h : NumOk n m s) (x : NdP n) : NumOk n (m + 1) (numS F s x.1) :=
  ⟨putI_keys h.keys (fun j hj => by cases hj; exact x.2.1) _, by show (s.ps ++ [_]).length = _; rw [List.length_append, h.lp]; rfl, by show (s.ns ++ [_]).length = _; rw [List.length_append, h.ln]; rfl⟩
theorem numOk_fold {n : Nat} {F : Frs} : ∀ (l : List (NdP n)) (m : Nat) (s : Num), NumOk n m s → NumOk n (m + l.length) ((ndv l).foldl (numS F) s) := by
  intro l
  induction l with
  | nil => intro m s h; exact h
  | cons x l ih =>
    intro m s h
    have h2 := ih (m + 1) _ (h.step (F := F) x)
    rw [show m + (x :: l).length = m + 1 + l.length by simp; omega]
    exact h2
theorem numOk {n : Nat} {F : Frs} (l : List (NdP n)) : NumOk n l.length (numL F (ndv l)) := by
  have h := numOk_fold (F := F) l 0 num0 ⟨fun x hx k hk => (by
    have : x = (none, -1) := by simpa [num0] using hx
    subst this; cases hk), rfl, rfl⟩
  rw [Nat.zero_add] at h; exact h
def TrPost (w : World) (t : Tre) (e : Ending) (w' : World) : Prop := Up w w' ∧ ∃ v, e = .returned v ∧ TreeAt (fun b => w.heap.size ≤ b) w' v t
structure TrS (B0 : Nat) (w1 W : World) (Pv Nv : Value) (ps : List Int) (ns : List ByteArray) : Prop where
  pown : Owns B0 3 W Pv (ps.map (Value.int .i64))
  nown : Owns B0 9 W Nv (ns.map Value.string)
  apart : ∀ b, Pv.ownBlock = some b → Nv.ownBlock ≠ some b
  low : Below B0 w1 W
  fns : ∀ (b : Nat) (c : Array Value) (z : Nat × Nat), w1.heap[b]? = some (Obj.cells c 222 z) → W.heap[b]? = w1.heap[b]?
  far : KeepsFrom B0 w1 W
section
variable {B0 : Nat} {w1 W W' : World} {Pv Nv : Value} {ps : List Int} {ns : List ByteArray}
theorem Owns.typed {base : Nat} {e : TypeId} {w : World} {v : Value} {vs : List Value} (h : Owns base e w v vs) {b : Nat} (hb : v.ownBlock = some b) : ∃ c, w.heap[b]? = some (Obj.cells c e (0, 0)) := by
  obtain ⟨_, ⟨rfl, _⟩ | ⟨g, cap, cur, rfl, _, hc, _⟩⟩ := h
  · cases hb
  · injection hb with hb; subst hb; exact ⟨cur, hc⟩
theorem TrS.up (h : TrS B0 w1 W Pv Nv ps ns) (hu : Up W W') (hB : B0 ≤ W.heap.size) : TrS B0 w1 W' Pv Nv ps ns :=
  ⟨h.pown.same fun b hb => Below.block hu b (ownBlock_lt h.pown hb).2, h.nown.same fun b hb => Below.block hu b (ownBlock_lt h.nown hb).2, h.apart, Below.trans h.low (Below.mono hu hB), fun b c z hb => by
    have h1 := h.fns b c z hb
    rw [← h1]
    exact Below.block hu b (by rw [hb] at h1; exact (Array.getElem?_eq_some_iff.1 h1).1), h.far.trans ⟨hu.size, fun k o _ hk _ => (Below.block hu k (Array.getElem?_eq_some_iff.1 hk).1).trans hk⟩⟩
theorem TrS.appP (h : TrS B0 w1 W Pv Nv ps ns) (hB : B0 ≤ W.heap.size) {g cap k : Nat} {u : Int} (ho : Owns B0 3 W' (.slice (some ⟨g, 0, none⟩) k cap) (ps.map (Value.int .i64) ++ [.int .i64 u])) (hg : W.grownBy W' Pv.ownBlock) (hor : Pv.ownBlock = some g ∨ W.heap.size ≤ g) :
    TrS B0 w1 W' (.slice (some ⟨g, 0, none⟩) k cap) Nv (ps ++ [u]) ns := by
  refine ⟨by rw [List.map_append]; exact ho, h.nown.same fun b hb => hg.block b (ownBlock_lt h.nown hb).2 (fun e => h.apart b e.symm hb), fun b hb hb2 => ?_, Below.trans h.low (h.pown.grown_below hg hB), fun b c z hb => ?_, h.far.trans ⟨hg.size, fun k o _ hk hc => (hg.block k (Array.getElem?_eq_some_iff.1 hk).1 (fun e => ?_)).trans hk⟩⟩
  · injection hb with hb
    have hb : g = b := hb
    subst hb
    rcases hor with h1 | h1
    · exact h.apart g h1 hb2
    · have := (ownBlock_lt h.nown hb2).2; omega
  · have h1 := h.fns b c z hb
    rw [← h1]
    refine hg.block b (by rw [hb] at h1; exact (Array.getElem?_eq_some_iff.1 h1).1) (fun e => ?_)
    obtain ⟨c2, h2⟩ := h.pown.typed e.symm
    rw [h1, hb] at h2
    injection h2 with h2
    injection h2 with _ h2 _
    cases h2
  · obtain ⟨c2, h2⟩ := h.pown.typed e.symm
    rw [h2] at hk; injection hk with hk; subst hk; cases hc
theorem TrS.appN (h : TrS B0 w1 W Pv Nv ps ns) (hB : B0 ≤ W.heap.size) {g cap k : Nat} {u : ByteArray} (ho : Owns B0 9 W' (.slice (some ⟨g, 0, none⟩) k cap) (ns.map Value.string ++ [.string u])) (hg : W.grownBy W' Nv.ownBlock) (hor : Nv.ownBlock = some g ∨ W.heap.size ≤ g) :
    TrS B0 w1 W' Pv (.slice (some ⟨g, 0, none⟩) k cap) ps (ns ++ [u]) := by
  refine ⟨h.pown.same fun b hb => hg.block b (ownBlock_lt h.pown hb).2 (fun e => h.apart b hb e.symm), by rw [List.map_append]; exact ho, fun b hb hb2 => ?_, Below.trans h.low (h.nown.grown_below hg hB), fun b c z hb => ?_, h.far.trans ⟨hg.size, fun k o _ hk hc => (hg.block k (Array.getElem?_eq_some_iff.1 hk).1 (fun e => ?_)).trans hk⟩⟩
  · injection hb2 with hb2
    have hb2 : g = b := hb2
    subst hb2
    rcases hor with h1 | h1
    · exact h.apart g hb h1
    · have := (ownBlock_lt h.pown hb).2; omega
  · have h1 := h.fns b c z hb
    rw [← h1]
    refine hg.block b (by rw [hb] at h1; exact (Array.getElem?_eq_some_iff.1 h1).1) (fun e => ?_)
    obtain ⟨c2, h2⟩ := h.nown.typed e.symm
    rw [h1, hb] at h2
    injection h2 with h2
    injection h2 with _ h2 _
    cases h2
  · obtain ⟨c2, h2⟩ := h.nown.typed e.symm
    rw [h2] at hk; injection hk with hk; subst hk; cases hc
end
def TrI (n B0 Bt m : Nat) (A : Nat → Nat) (F : Frs) (T : Nat → Prop) (w6 : World) (pre : List (NdP n)) (W : World) : Prop :=
  KS T w6 W ∧ Below (Bt) w6 W ∧ ∃ Pv Nv, W.heap[Bt]? = some (Obj.cells #[Pv, Nv] 45 (0, 0)) ∧ TrS B0 W W Pv Nv (numL F (ndv pre)).ps (numL F (ndv pre)).ns ∧ PMap W m (entA A (numL F (ndv pre)).mp) ∧ Uniq (entA A (numL F (ndv pre)).mp)
theorem TrI.own {n B : Nat} {A : Nat → Nat} {F : Frs} {w6 : World} (hz : w6.heap.size = B + 5) : OwnFrom w6.heap.size (TrI n (B + 5) (B + 1) (B + 1 + 1) A F (fun b => b < B + 5 ∧ b ≠ B + 1 ∧ b ≠ B + 1 + 1) w6) := by
  intro s X Y row hs hg hr
  obtain ⟨hk, hb, Pv, Nv, hbox, hT, hm, hu⟩ := hs
  have hsz : B + 5 ≤ X.heap.size := by have := hb.size; omega
  have hlow : ∀ b, b < B + 5 → Y.heap[b]? = X.heap[b]? := fun b hb2 => hg.block b (by omega) (fun e => by obtain ⟨h1, _⟩ := hr b e.symm; omega)
  have hcell : ∀ (b : Nat) (c : Array Value) (e : TypeId) (z : Nat × Nat), X.heap[b]? = some (Obj.cells c e z) → Y.heap[b]? = X.heap[b]? := fun b c e z hc => hg.block b (Array.getElem?_eq_some_iff.1 hc).1 (fun e2 => by
    obtain ⟨_, o, h1, h2⟩ := hr b e2.symm
    rw [hc] at h1; injection h1 with h1; subst h1; cases h2)
  refine ⟨fun b hb2 => (hlow b hb2.1).trans (hk b hb2), ⟨hg.os.trans hb.os, hg.tape.trans hb.tape, hg.output.trans hb.output, Nat.le_trans hb.size hg.size, fun b hb2 => (hlow b (by omega)).trans (hb.block b hb2)⟩, Pv, Nv, (hlow _ (by omega)).trans hbox, ?_, hm.of_block (hlow _ (by omega)), hu⟩
  refine ⟨hT.pown.same fun b hb2 => ?_, hT.nown.same fun b hb2 => ?_, hT.apart, Below.refl _ _, fun _ _ _ _ => rfl, KeepsFrom.refl _ _⟩
  · obtain ⟨c, hc⟩ := hT.pown.typed hb2; exact hcell _ _ _ _ hc
  · obtain ⟨c, hc⟩ := hT.nown.typed hb2; exact hcell _ _ _ _ hc
theorem TrI.next {n B : Nat} {A : Nat → Nat} {F : Frs} {w6 W w1 We : World} (hz : w6.heap.size = B + 5) {pre : List (NdP n)} {x : NdP n} (hks : KS (fun b => b < B + 5 ∧ b ≠ B + 1 ∧ b ≠ B + 1 + 1) w6 W) (hbw : Below (B + 1) w6 W)
    {P0 N0 : Value} (hbox : W.heap[B + 1]? = some (Obj.cells #[P0, N0] 45 (0, 0))) {es : List (Option Nat × Value)} (hmp0 : PMap W (B + 1 + 1) es)
    (hmp1 : PMap w1 (B + 1 + 1) (entA A (numL F (ndv (pre ++ [x]))).mp)) (huq : Uniq (entA A (numL F (ndv (pre ++ [x]))).mp)) (hs1 : w1.heap.size = W.heap.size) (ho1 : w1.os = W.os) (htp1 : w1.tape = W.tape) (hou1 : w1.output = W.output) (hb1 : ∀ j, j ≠ B + 1 + 1 → w1.heap[j]? = W.heap[j]?)
    {Pv Nv : Value} (hT : TrS (B + 5) w1 We Pv Nv (numL F (ndv (pre ++ [x]))).ps (numL F (ndv (pre ++ [x]))).ns) :
    KeepsFrom w6.heap.size W ((We.setCell ⟨B + 1, 0, none⟩ Pv).setCell ⟨B + 1, 1, none⟩ Nv) ∧ KN (fun b => b < B + 5 ∧ b ≠ B + 1 ∧ b ≠ B + 1 + 1) W ((We.setCell ⟨B + 1, 0, none⟩ Pv).setCell ⟨B + 1, 1, none⟩ Nv) ∧
      TrI n (B + 5) (B + 1) (B + 1 + 1) A F (fun b => b < B + 5 ∧ b ≠ B + 1 ∧ b ≠ B + 1 + 1) w6 (pre ++ [x]) ((We.setCell ⟨B + 1, 0, none⟩ Pv).setCell ⟨B + 1, 1, none⟩ Nv) := by
  have hset : ∀ b, b ≠ B + 1 → ((We.setCell ⟨B + 1, 0, none⟩ Pv).setCell ⟨B + 1, 1, none⟩ Nv).heap[b]? = We.heap[b]? := fun b hb => by rw [blk_setCell_other _ _ _ _ hb, blk_setCell_other _ _ _ _ hb]
  have hsz : ((We.setCell ⟨B + 1, 0, none⟩ Pv).setCell ⟨B + 1, 1, none⟩ Nv).heap.size = We.heap.size := by simp [World.size_setCell]
  have hbe : We.heap[B + 1]? = some (Obj.cells #[P0, N0] 45 (0, 0)) := (hT.low.block (B + 1) (by omega)).trans ((hb1 _ (by omega)).trans hbox)
  have hbf : ((We.setCell ⟨B + 1, 0, none⟩ Pv).setCell ⟨B + 1, 1, none⟩ Nv).heap[B + 1]? = some (Obj.cells #[Pv, Nv] 45 (0, 0)) := by
    simp [World.setCell, Array.getElem?_modify, hbe]
  have hkT : KS (fun b => b < B + 5 ∧ b ≠ B + 1 ∧ b ≠ B + 1 + 1) W ((We.setCell ⟨B + 1, 0, none⟩ Pv).setCell ⟨B + 1, 1, none⟩ Nv) := fun b hb => (hset b hb.2.1).trans ((hT.low.block b hb.1).trans (hb1 b hb.2.2))
  refine ⟨⟨?_, fun k o hk ho hc => ?_⟩, ⟨hkT, fun b c z hb => ?_⟩, hks.trans hkT, ⟨hT.low.os.trans (ho1.trans hbw.os), hT.low.tape.trans (htp1.trans hbw.tape), hT.low.output.trans (hou1.trans hbw.output), ?_, fun b hb => (hkT b ⟨by omega, by omega, by omega⟩).trans (hbw.block b hb)⟩, Pv, Nv, hbf, ⟨hT.pown.same fun b hb => hset b (by have := (ownBlock_lt hT.pown hb).1; omega), hT.nown.same fun b hb => hset b (by have := (ownBlock_lt hT.nown hb).1; omega), hT.apart, Below.refl _ _, fun _ _ _ _ => rfl, KeepsFrom.refl _ _⟩, hmp1.of_block ((hset _ (by omega)).trans (hT.low.block _ (by omega))), huq⟩
  · rw [hsz, ← hs1]; exact hT.low.size
  · rw [hset k (by omega)]
    exact hT.far.same k o (by omega) ((hb1 k (by omega)).trans ho) hc
  · have hne : b ≠ B + 1 + 1 := fun e => by
      subst e
      obtain ⟨es', ck, h1, _⟩ := hmp0
      rw [h1] at hb; cases hb
    have hne1 : b ≠ B + 1 := fun e => by
      subst e
      rw [hbox] at hb
      injection hb with hb
      injection hb with _ hb _
      cases hb
    rw [hset b hne1, hT.fns b c z (by rw [hb1 b hne]; exact hb), hb1 b hne]
  · rw [hsz]; have h1 := hT.low.size; have h2 := hbw.size; omega
set_option maxRecDepth 100000 in
set_option maxHeartbeats 4000000 in
theorem tree_t {n base : Nat} {A : Nat → Nat} {kv : Nat → Value} {F : Frs} {rk : Nat → Nat} (hwf : Wf F n rk) (hlen : ∀ i, i < n → (F.kids i).length ≤ 1000) (w : World) (i : Nat) (hi : i < n) (hF : FAt base n A kv F w) (hN : (seqF F rk i none).length ≤ 100000) :
    Calls Tryz.prog 113 #[.pointer (some ⟨A i, 0, none⟩)] w (TrPost w (treeF F rk i)) := by
  refine (callsIn_wide (n := 9)).1 ?_
  refine callsIn_of_wp_marks Tryz.func113 rfl trivial ?_ rfl
  simp only [Tryz.ntmps113, List.size_toArray, List.length_cons, List.length_nil, Nat.reduceAdd, Nat.reduceSub, Array.replicate_succ, Array.replicate_zero, List.push_toArray, List.append_toArray, List.nil_append, List.cons_append]
  have hmm := fun W => run_makeMap (P := Tryz.prog) 194 W
  obtain ⟨w3, hw3⟩ : ∃ w3, w3 = ((w.alloc (.cells #[.slice none 0 0, .slice none 0 0] 45)).alloc (.cells #[.slice none 0 0, .slice none 0 0] 45)).alloc (.map #[] 0) := ⟨_, rfl⟩
  have hu3 : Up w w3 := by rw [hw3]; exact ((Up.alloc _ _).trans (Up.alloc _ _)).trans (Up.alloc _ _)
  have hz3 : w3.heap.size = w.heap.size + 3 := by rw [hw3]; simp
  have hp3 : PMap w3 (w.heap.size + 1 + 1) [] := ⟨#[], 0, by
    rw [hw3]
    have h := blk_alloc_new ((w.alloc (.cells #[.slice none 0 0, .slice none 0 0] 45)).alloc (.cells #[.slice none 0 0, .slice none 0 0] 45)) (.map #[] 0)
    simp only [World.size_alloc] at h; exact h, rfl⟩
  have ht3 : w3.heap[w.heap.size + 1]? = some (Obj.cells #[.slice none 0 0, .slice none 0 0] 45 (0, 0)) := by
    rw [hw3, blk_alloc_lt _ _ _ (by simp)]
    have h := blk_alloc_new (w.alloc (.cells #[.slice none 0 0, .slice none 0 0] 45)) (.cells #[.slice none 0 0, .slice none 0 0] 45)
    rw [World.size_alloc] at h; exact h
  have hr3 : w3.heap[w.heap.size]? = some (Obj.cells #[.slice none 0 0, .slice none 0 0] 45 (0, 0)) := by
    rw [hw3, blk_alloc_lt _ _ _ (by simp; omega), blk_alloc_lt _ _ _ (by simp)]
    exact blk_alloc_new _ _
  obtain ⟨w4, hset, hp4, hs4, ho4, htp4, hou4, hb4⟩ := run_pset (P := Tryz.prog) Tryz.underlying194 Tryz.underlying113 Tryz.sizeNd hp3 List.nodup_nil (k := none) (.int .i64 (-1)) trivial (fun x hx => by cases hx)
  have hu4 : Up w w4 := ⟨ho4.trans hu3.os, htp4.trans hu3.tape, hou4.trans hu3.output, by rw [hs4]; exact hu3.size, fun b hb => (hb4 b (by omega)).trans (Below.block hu3 b hb)⟩
  have ht4 := (hb4 (w.heap.size + 1) (by omega)).trans ht3
  have hr4 := (hb4 w.heap.size (by omega)).trans hr3
  have hz4 : w4.heap.size = w.heap.size + 3 := hs4.trans hz3
  rw [hw3] at hset
  simp only [pk] at hset
  have HU4 := Lib.hid hu4
  have HT4 := Lib.hid ht4
  have HR4 := Lib.hid hr4
  have HZ4 := Lib.hid hz4
  have HP4 := Lib.hid hp4
  have HF := Lib.hid hF
  have HWF := Lib.hid hwf
  have HLEN := Lib.hid hlen
  have HN := Lib.hid hN
  clear hw3 hu3 hz3 hp3 ht3 hr3 hp4 hs4 ho4 htp4 hou4 hb4 hu4 ht4 hr4 hz4 hF hwf hlen hN
  gi_wp2_with fail
  refine ⟨trivial, (callsIn_wide.2 (below_t _ _)).mono ?_⟩
  rintro e w6 ⟨rfl, rfl⟩
  rw [World.size_alloc, HZ4.out]
  gi_wp2_with fail
  have hu6 : Up w4 ((w4.alloc (.cells #[.map (some (w.heap.size + 1 + 1))] 194)).alloc (.cells #[.pointer (some ⟨A i, 0, none⟩)] 113)) := (Up.alloc _ _).trans (Up.alloc _ _)
  have hz6 : ((w4.alloc (.cells #[.map (some (w.heap.size + 1 + 1))] 194)).alloc (.cells #[.pointer (some ⟨A i, 0, none⟩)] 113)).heap.size = w.heap.size + 5 := by simp [HZ4.out]
  have hx6 : ((w4.alloc (.cells #[.map (some (w.heap.size + 1 + 1))] 194)).alloc (.cells #[.pointer (some ⟨A i, 0, none⟩)] 113)).cell? ⟨w.heap.size + 3 + 1, 0, none⟩ = some (.pointer (some ⟨A i, 0, none⟩)) := by
    have h := cell_at_new (w4.alloc (.cells #[.map (some (w.heap.size + 1 + 1))] 194)) #[.pointer (some ⟨A i, 0, none⟩)] 113 0
    rw [World.size_alloc, HZ4.out] at h; exact h
  have hm6 : ((w4.alloc (.cells #[.map (some (w.heap.size + 1 + 1))] 194)).alloc (.cells #[.pointer (some ⟨A i, 0, none⟩)] 113)).cell? ⟨w.heap.size + 3, 0, none⟩ = some (.map (some (w.heap.size + 1 + 1))) := by
    have h := cell_at_new w4 #[.map (some (w.heap.size + 1 + 1))] 194 0
    rw [HZ4.out] at h
    exact (Up.alloc _ _).cell h
  have ht6 := (Below.block hu6 (w.heap.size + 1) (by rw [HZ4.out]; omega)).trans HT4.out
  have hr6 := (Below.block hu6 w.heap.size (by rw [HZ4.out]; omega)).trans HR4.out
  have hp6 := HP4.out.of_block (Below.block hu6 (w.heap.size + 1 + 1) (by rw [HZ4.out]; omega))
  have hF6 := (HF.out.up HU4.out).up hu6
  have hu06 := HU4.out.trans hu6
  generalize (w4.alloc (.cells #[.map (some (w.heap.size + 1 + 1))] 194)).alloc (.cells #[.pointer (some ⟨A i, 0, none⟩)] 113) = w6 at *
  have hlt : ∀ j, j < n → A j < w.heap.size := fun j hj => HF.out.lt hj
  have hlo : ∀ j b, j < n → (kv j).ownBlock = some b → b < w.heap.size := fun j b hj hb => (HF.out.ownlt hj hb).2
  have hinj := HF.out.inj
  have HX := Lib.hid (show Up w w6 from hu06)
  clear hu6 hu06 HU4 HT4 HR4 HZ4 HP4 hset
  generalize hB : w.heap.size = B at *
  have HB : Hid (w.heap.size = B) := hB
  clear hB
  apply wpIn_rangeFunc_ownG (F := Fence.wide) (n := 9) (P := Tryz.prog) (ps := #[11, 12]) (w := w6) rfl (by omega) (gf := 206) (lb := #[.pointer (some ⟨B + 3 + 1, 0, none⟩)]) rfl trivial (enters_of Tryz.func206 (by kernel_rfl) rfl)
    (below_stops (T := fun b => b < B + 5 ∧ b ≠ B + 1 ∧ b ≠ B + 1 + 1) HWF.out HLEN.out (fun j hj => ⟨by have := hlt j hj; omega, by have := hlt j hj; omega, by have := hlt j hj; omega⟩) (fun j b hj hb => ⟨by have := hlo j b hj hb; omega, by have := hlo j b hj hb; omega, by have := hlo j b hj hb; omega⟩) 8 (B + 3 + 1) i hi w6 (fun b hb => by rw [hz6]; exact hb.1) ⟨by omega, by omega, by omega⟩ hF6 hx6)
    (fun h k => KN.trans h k) (fun W l o o' hl ho hc _ => ⟨fun b hb => World.putObj_heap_other (by have := hb.1; omega), fun b c z hb => World.putObj_heap_other (fun e => by subst e; rw [hb] at ho; injection ho with ho; subst ho; cases hc)⟩) (Below.refl _ _) (fun _ => (rfl : (2 : Nat) = 2))
    (TrI n (B + 5) (B + 1) (B + 1 + 1) A F (fun b => b < B + 5 ∧ b ≠ B + 1 ∧ b ≠ B + 1 + 1) w6) (fun _ _ _ => False)
  · exact TrI.own hz6
  · exact fun _ _ _ _ _ h _ _ => h
  · exact ⟨KS.refl _ _, Below.refl _ _, .slice none 0 0, .slice none 0 0, ht6, ⟨Owns.nil _ _ _, Owns.nil _ _ _, fun b hb => (by cases hb), Below.refl _ _, fun _ _ _ _ => rfl, KeepsFrom.refl _ _⟩, hp6, by simp [Uniq, entA, ndv, numL, num0]⟩
  · intro l x W K hK
    simp only [encN]
    gi_wp2
    exact hK
  · rintro l pre x W ⟨hks, hbw, Pv, Nv, hbox, hTS, hmp, huq⟩ hpl
    obtain ⟨⟨x1, xp⟩, hx1, hxp⟩ := x
    have HLT := Lib.hid hlt
    have HINJ := Lib.hid hinj
    have hxl := hlt x1 hx1
    have hFW : FAt base n A kv F W := hF6.same (fun j hj => hks (A j) ⟨by have := hlt j hj; omega, by have := hlt j hj; omega, by have := hlt j hj; omega⟩) (fun j b hj hb => hks b ⟨by have := hlo j b hj hb; omega, by have := hlo j b hj hb; omega, by have := hlo j b hj hb; omega⟩)
    have hok : NumOk n pre.length (numL F (ndv pre)) := numOk pre
    have hb0 : W.cell? ⟨B + 1, 0, none⟩ = some Pv := by simp [World.cell?, hbox]
    have hmb : W.cell? ⟨B + 3, 0, none⟩ = some (.map (some (B + 1 + 1))) := by rw [World.cell?_of_block (a := ⟨B + 3, 0, none⟩) (hks (B + 3) ⟨by omega, by omega, by omega⟩)]; exact hm6
    obtain ⟨pp, pc, rfl, _⟩ := hTS.pown.form (n := pre.length) (by rw [List.length_map]; exact hok.lp)
    have hkeys : ∀ z ∈ entA A (numL F (ndv pre)).mp, okKey W z.1 := fun z hz => by
      obtain ⟨y, hy, rfl⟩ := List.mem_map.1 hz
      obtain ⟨y1, y2⟩ := y
      cases y1 with
      | none => trivial
      | some k => exact hFW.plain (hok.keys _ hy k rfl)
    obtain ⟨w1, hset, hmp1, hs1, ho1, htp1, hou1, hb1⟩ := run_pset (P := Tryz.prog) Tryz.underlying194 Tryz.underlying113 Tryz.sizeNd hmp huq (k := some (A x1)) (.int .i64 (pre.length : Nat)) (hFW.plain hx1) hkeys
    simp only [pk] at hset
    have hpl2 : pre.length ≤ 100000 := by have := HN.out; omega
    gi_wp2
    have hT1 : TrS (B + 5) w1 w1 (.slice pp pre.length pc) Nv (numL F (ndv pre)).ps (numL F (ndv pre)).ns := ⟨hTS.pown.same fun b hb => hb1 b (by have := (ownBlock_lt hTS.pown hb).1; omega), hTS.nown.same fun b hb => hb1 b (by have := (ownBlock_lt hTS.nown hb).1; omega), hTS.apart, Below.refl _ _, fun _ _ _ _ => rfl, KeepsFrom.refl _ _⟩
    obtain ⟨np, nc, rfl, _⟩ := hTS.nown.form (n := pre.length) (by rw [List.length_map]; exact hok.ln)
    have hput : putL (entA A (numL F (ndv pre)).mp) (some (A x1)) (.int .i64 (pre.length : Nat)) = entA A (numL F (ndv (pre ++ [⟨(x1, xp), hx1, hxp⟩]))).mp := by
      rw [ndv_app, show ndv [(⟨(x1, xp), hx1, hxp⟩ : NdP n)] = [(x1, xp)] from rfl, numL_snoc]
      show _ = entA A (putI (numL F (ndv pre)).mp (some x1) ((numL F (ndv pre)).ps.length : Nat))
      rw [hok.lp, ← entA_put HINJ.out (fun j hj => by cases hj; exact hx1) hok.keys]; rfl
    rw [hput] at hmp1
    have huq1 : Uniq (entA A (numL F (ndv (pre ++ [⟨(x1, xp), hx1, hxp⟩]))).mp) := by rw [← hput]; exact putL_uniq huq _ _
    have hok1 : NumOk n (pre ++ [(⟨(x1, xp), hx1, hxp⟩ : NdP n)]).length (numL F (ndv (pre ++ [⟨(x1, xp), hx1, hxp⟩]))) := numOk _
    have hF1 : FAt base n A kv F w1 := hFW.same (fun j hj => hb1 _ (by have := HLT.out j hj; omega)) (fun j b hj hb => hb1 _ (by have := hlo j b hj hb; omega))
    obtain ⟨z, hz⟩ : ∃ z : Int, z = (((numL F (ndv (pre ++ [⟨(x1, xp), hx1, hxp⟩]))).mp).lookup xp).getD 0 := ⟨_, rfl⟩
    have hpsE : (numL F (ndv (pre ++ [⟨(x1, xp), hx1, hxp⟩]))).ps = (numL F (ndv pre)).ps ++ [z] := by
      rw [hz, ndv_app, show ndv [(⟨(x1, xp), hx1, hxp⟩ : NdP n)] = [(x1, xp)] from rfl, numL_snoc]; rfl
    have hnsE : (numL F (ndv (pre ++ [⟨(x1, xp), hx1, hxp⟩]))).ns = (numL F (ndv pre)).ns ++ [F.nm x1] := by
      rw [ndv_app, show ndv [(⟨(x1, xp), hx1, hxp⟩ : NdP n)] = [(x1, xp)] from rfl, numL_snoc]; rfl
    have HNEXT : Hid (∀ We P2 N2, TrS (B + 5) w1 We P2 N2 ((numL F (ndv pre)).ps ++ [z]) ((numL F (ndv pre)).ns ++ [F.nm x1]) → KeepsFrom w6.heap.size W ((We.setCell ⟨B + 1, 0, none⟩ P2).setCell ⟨B + 1, 1, none⟩ N2) ∧ KN (fun b => b < B + 5 ∧ b ≠ B + 1 ∧ b ≠ B + 1 + 1) W ((We.setCell ⟨B + 1, 0, none⟩ P2).setCell ⟨B + 1, 1, none⟩ N2) ∧
      TrI n (B + 5) (B + 1) (B + 1 + 1) A F (fun b => b < B + 5 ∧ b ≠ B + 1 ∧ b ≠ B + 1 + 1) w6 (pre ++ [⟨(x1, xp), hx1, hxp⟩]) ((We.setCell ⟨B + 1, 0, none⟩ P2).setCell ⟨B + 1, 1, none⟩ N2)) := fun We P2 N2 hT => TrI.next hz6 hks hbw hbox hmp hmp1 huq1 hs1 ho1 htp1 hou1 hb1 (by rw [hpsE, hnsE]; exact hT)
    have hb0 : w1.heap[B + 1]? = some (Obj.cells #[.slice pp pre.length pc, .slice np pre.length nc] 45 (0, 0)) := (hb1 _ (by omega)).trans hbox
    have HFACT : Hid (∀ w', KS (fun b => b < B + 5) w1 w' → w'.cell? ⟨B + 1, 0, none⟩ = some (.slice pp pre.length pc) ∧ w'.cell? ⟨B + 1, 1, none⟩ = some (.slice np pre.length nc) ∧ w'.cell? ⟨B + 3, 0, none⟩ = some (.map (some (B + 1 + 1))) ∧ w'.cell? ⟨A x1, 0, none⟩ = some (.string (F.nm x1)) ∧ (Instr.lookup 194 (.map (some (B + 1 + 1))) (optr A xp) false).run Tryz.prog w' = .ok (.int .i64 z) w') := fun w' hS => by
      refine ⟨?_, ?_, ?_, ?_, ?_⟩
      · simp [World.cell?, (hS (B + 1) (by omega)).trans hb0]
      · simp [World.cell?, (hS (B + 1) (by omega)).trans hb0]
      · rw [World.cell?_of_block (a := ⟨B + 3, 0, none⟩) ((hS (B + 3) (by show B + 3 < B + 5; omega)).trans (hb1 (B + 3) (by omega)))]; exact hmb
      · rw [World.cell?_of_block (a := ⟨A x1, 0, none⟩) (hS (A x1) (by show A x1 < B + 5; omega))]; exact hF1.name hx1
      · have hpl : ∀ j, j < n → Plain w' (A j) := fun j hj => (hF1.plain hj).of_block (hS _ (by have := HLT.out j hj; show A j < B + 5; omega))
        have h := run_plook (P := Tryz.prog) (w := w') Tryz.underlying194 Tryz.underlying113 Tryz.sizeNd (z := .int .i64 0) Tryz.zeroValue3 (hmp1.of_block (hS _ (by show B + 1 + 1 < B + 5; omega))) (k := xp.map A)
          (by cases xp with | none => trivial | some k => exact hpl k (hxp k rfl)) (fun zz hzz => by
            obtain ⟨y, hy, rfl⟩ := List.mem_map.1 hzz
            obtain ⟨y1, y2⟩ := y
            cases y1 with
            | none => trivial
            | some k => exact hpl k (hok1.keys _ hy k rfl))
        rw [entA_lookup HINJ.out (fun j hj => hxp j hj) hok1.keys] at h
        have e1 : pk (xp.map A) = optr A xp := by cases xp <;> rfl
        have e2 : ((((numL F (ndv (pre ++ [⟨(x1, xp), hx1, hxp⟩]))).mp).lookup xp).map (Value.int .i64)).getD (.int .i64 0) = .int .i64 z := by rw [hz]; cases List.lookup xp (numL F (ndv (pre ++ [⟨(x1, xp), hx1, hxp⟩]))).mp <;> rfl
        rw [e1, e2] at h; exact h
    have HFZ : Hid (∀ w', KS (fun b => b < B + 5) w1 w' → ∀ o, w'.frozen? ⟨B + 1, o, none⟩ = false) := fun w' hS o => by simp [World.frozen?, (hS (B + 1) (by omega)).trans hb0]
    have HTd : Hid (TrS (B + 5) w1 w1.drew (.slice pp pre.length pc) (.slice np pre.length nc) (numL F (ndv pre)).ps (numL F (ndv pre)).ns) := hT1.up (Up.drewN w1 1) (by rw [hs1]; have := hbw.size; omega)
    have HPL : Hid ((numL F (ndv pre)).ps.length = pre.length ∧ (numL F (ndv pre)).ns.length = pre.length) := ⟨hok.lp, hok.ln⟩
    have hSz : B + 5 ≤ w1.drew.heap.size := by show B + 5 ≤ w1.heap.size; rw [hs1]; have := hbw.size; omega
    have HFW1 := Lib.hid hF1
    clear hput hT1 hTS huq huq1 hok hok1 hpsE hnsE hb0 hF1 hFW hmp hmp1 hset hks hbw hbox hkeys hmb hz hb1 hs1 ho1 htp1 hou1 hlt hlo hinj
    generalize (numL F (ndv pre)).ps = PS at *
    generalize (numL F (ndv pre)).ns = NS at *
    generalize F.nm x1 = nm at *
    refine region_R (by kernel_rfl) 15 (KS (fun b => b < B + 5) w1) (KS.refl _ _) (fun hS => ?_)
    simp only [List.size_toArray, List.length_cons, List.length_nil, Nat.reduceAdd, Array.replicate_succ, Array.replicate_zero, List.push_toArray, List.nil_append, List.cons_append]
    generalize w1.drew = Wd at *
    refine anyR.take (i := 0) (v := ?gv0) rfl (by kernel_rfl) (fun _ _ _ h => h) (by rfl) (fun _ => rfl) (fun w hSw => ?gy0) hS ?gr0
    case gy0 =>
      obtain ⟨q1, q2, q3, q4, q5⟩ := HFACT.out w hSw
      go_simp
      try with_reducible rfl
    try simp only [Act.put, List.setIfInBounds_toArray, List.set_cons_zero, List.set_cons_succ]
    refine anyR.take (i := 1) (v := ?gv1) rfl (by kernel_rfl) (fun _ _ _ h => h) (by rfl) (fun _ => rfl) (fun w hSw => ?gy1) hS ?gr1
    case gy1 =>
      obtain ⟨q1, q2, q3, q4, q5⟩ := HFACT.out w hSw
      go_simp
      try with_reducible rfl
    try simp only [Act.put, List.setIfInBounds_toArray, List.set_cons_zero, List.set_cons_succ]
    refine anyR.take (i := 2) (v := ?gv2) rfl (by kernel_rfl) (fun _ _ _ h => h) (by rfl) (fun _ => rfl) (fun w hSw => ?gy2) hS ?gr2
    case gy2 =>
      obtain ⟨q1, q2, q3, q4, q5⟩ := HFACT.out w hSw
      go_simp
      try with_reducible rfl
    try simp only [Act.put, List.setIfInBounds_toArray, List.set_cons_zero, List.set_cons_succ]
    refine anyR.take (i := 3) (v := ?gv3) rfl (by kernel_rfl) (fun _ _ _ h => h) (by rfl) (fun _ => rfl) (fun w hSw => ?gy3) hS ?gr3
    case gy3 =>
      obtain ⟨q1, q2, q3, q4, q5⟩ := HFACT.out w hSw
      go_simp
      try with_reducible rfl
    try simp only [Act.put, List.setIfInBounds_toArray, List.set_cons_zero, List.set_cons_succ]
    refine anyR.take (i := 4) (v := ?gv4) rfl (by kernel_rfl) (fun _ _ _ h => h) (by rfl) (fun _ => rfl) (fun w hSw => ?gy4) hS ?gr4
    case gy4 =>
      obtain ⟨q1, q2, q3, q4, q5⟩ := HFACT.out w hSw
      go_simp
      try with_reducible rfl
    try simp only [Act.put, List.setIfInBounds_toArray, List.set_cons_zero, List.set_cons_succ]
    refine anyR.take (i := 7) (v := ?gv7) rfl (by kernel_rfl) (fun _ _ _ h => h) (by rfl) (fun _ => rfl) (fun w hSw => ?gy7) hS ?gr7
    case gy7 =>
      obtain ⟨q1, q2, q3, q4, q5⟩ := HFACT.out w hSw
      go_simp
      try with_reducible rfl
    try simp only [Act.put, List.setIfInBounds_toArray, List.set_cons_zero, List.set_cons_succ]
    refine anyR.take (i := 8) (v := ?gv8) rfl (by kernel_rfl) (fun _ _ _ h => h) (by rfl) (fun _ => rfl) (fun w hSw => ?gy8) hS ?gr8
    case gy8 =>
      obtain ⟨q1, q2, q3, q4, q5⟩ := HFACT.out w hSw
      go_simp
      try with_reducible rfl
    try simp only [Act.put, List.setIfInBounds_toArray, List.set_cons_zero, List.set_cons_succ]
    refine anyR.take (i := 9) (v := ?gv9) rfl (by kernel_rfl) (fun _ _ _ h => h) (by rfl) (fun _ => rfl) (fun w hSw => ?gy9) hS ?gr9
    case gy9 =>
      obtain ⟨q1, q2, q3, q4, q5⟩ := HFACT.out w hSw
      go_simp
      try with_reducible rfl
    try simp only [Act.put, List.setIfInBounds_toArray, List.set_cons_zero, List.set_cons_succ]
    refine anyR.take (i := 10) (v := ?gv10) rfl (by kernel_rfl) (fun _ _ _ h => h) (by rfl) (fun _ => rfl) (fun w hSw => ?gy10) hS ?gr10
    case gy10 =>
      obtain ⟨q1, q2, q3, q4, q5⟩ := HFACT.out w hSw
      go_simp
      try with_reducible rfl
    try simp only [Act.put, List.setIfInBounds_toArray, List.set_cons_zero, List.set_cons_succ]
    refine anyR.take (i := 11) (v := ?gv11) rfl (by kernel_rfl) (fun _ _ _ h => h) (by rfl) (fun _ => rfl) (fun w hSw => ?gy11) hS ?gr11
    case gy11 =>
      obtain ⟨q1, q2, q3, q4, q5⟩ := HFACT.out w hSw
      go_simp
      try with_reducible rfl
    try simp only [Act.put, List.setIfInBounds_toArray, List.set_cons_zero, List.set_cons_succ]
    refine anyR.take (i := 12) (v := ?gv12) rfl (by kernel_rfl) (fun _ _ _ h => h) (by rfl) (fun _ => rfl) (fun w hSw => ?gy12) hS ?gr12
    case gy12 =>
      obtain ⟨q1, q2, q3, q4, q5⟩ := HFACT.out w hSw
      go_simp
      try with_reducible rfl
    try simp only [Act.put, List.setIfInBounds_toArray, List.set_cons_zero, List.set_cons_succ]
    refine anyR.step2 (i := 5) (i2 := 13) rfl rfl (by kernel_rfl) (fun K' hK => ?_) (fun K' hK => ?_)
    · go_simp
      have HTa : Hid (TrS (B + 5) w1 (Wd.alloc (.cells #[.int .i64 z] 3)) _ _ _ _) := HTd.out.up (Up.alloc _ _) hSz
      have hSa : B + 5 ≤ (Wd.alloc (.cells #[.int .i64 z] 3)).heap.size := Nat.le_trans hSz (Up.alloc _ _).size
      refine hK.out _ _ (fun _ => HTa.out.low.block) (fun _ => ?_)
      try simp only [List.setIfInBounds_toArray, List.set_cons_zero, List.set_cons_succ]
      refine anyR.step2 (i := 6) (i2 := 13) rfl rfl (by kernel_rfl) (fun K' hK => ?_) (fun K' hK => ?_)
      · refine step_app1R (by rfl) _ _ _ (by rfl) (B + 5) 3 _ 8 Tryz.underlying26 Tryz.infoI (by rfl) (by decide) (by rfl) HTa.out.pown (.int .i64 z) Wd.heap.size (by rfl) (cell_at_new Wd #[.int .i64 z] 3 0) (by rfl) (by rw [List.length_map, HPL.out.1]; omega) hSa ?_
        intro g1 g1c We1 hog1 hgg1 hrg1 _
        have HTb : Hid (TrS (B + 5) w1 We1 _ _ _ _) := HTa.out.appP hSa hog1 hgg1 (hrg1.imp id (fun e => Nat.le_of_eq e.symm))
        have hSb : B + 5 ≤ We1.heap.size := Nat.le_trans hSa hgg1.size
        refine hK.out _ _ (fun _ => HTb.out.low.block) (fun _ => ?_)
        try simp only [Act.put, List.setIfInBounds_toArray, List.set_cons_zero, List.set_cons_succ]
        refine anyR.free (i := 15) (v := ?gv15a) rfl (by kernel_rfl) (fun _ _ _ h => h) (by rfl) (fun _ => rfl) (fun w => ?gy15a) (fun _ => HTb.out.low.block) ?gr15a
        case gy15a =>
          go_simp
          try with_reducible rfl
        try simp only [Act.put, List.setIfInBounds_toArray, List.set_cons_zero, List.set_cons_succ]
        refine anyR.step (i := 13) rfl (by kernel_rfl) (fun K' hK => ?_)
        go_simp
        have HTc : Hid (TrS (B + 5) w1 (We1.alloc (.cells #[.string nm] 9)) _ _ _ _) := HTb.out.up (Up.alloc _ _) hSb
        have hSc : B + 5 ≤ (We1.alloc (.cells #[.string nm] 9)).heap.size := Nat.le_trans hSb (Up.alloc _ _).size
        refine hK.out _ _ (fun _ => HTc.out.low.block) (fun _ => ?_)
        try simp only [List.setIfInBounds_toArray, List.set_cons_zero, List.set_cons_succ]
        refine anyR.step (i := 14) rfl (by kernel_rfl) (fun K' hK => ?_)
        refine step_app1R (by rfl) _ _ _ (by rfl) (B + 5) 9 _ 16 Tryz.underlying43 Tryz.infoStr (by rfl) (by decide) (by rfl) HTc.out.nown (.string nm) We1.heap.size (by rfl) (cell_at_new We1 #[.string nm] 9 0) (by rfl) (by rw [List.length_map, HPL.out.2]; omega) hSc ?_
        intro g2 g2c We2 hog2 hgg2 hrg2 _
        have HTf : Hid (TrS (B + 5) w1 We2 _ _ _ _) := HTc.out.appN hSc hog2 hgg2 (hrg2.imp id (fun e => Nat.le_of_eq e.symm))
        have hSf : B + 5 ≤ We2.heap.size := Nat.le_trans hSc hgg2.size
        refine hK.out _ _ (fun _ => HTf.out.low.block) (fun _ => ?_)
        try simp only [Act.put, List.setIfInBounds_toArray, List.set_cons_zero, List.set_cons_succ]
        have hbe : We2.cell? ⟨B + 1, 0, none⟩ = some (.slice pp pre.length pc) := (HFACT.out We2 HTf.out.low.block).1
        have hbe1 : We2.cell? ⟨B + 1, 1, none⟩ = some (.slice np pre.length nc) := (HFACT.out We2 HTf.out.low.block).2.1
        have hfe : We2.frozen? ⟨B + 1, 0, none⟩ = false := HFZ.out We2 HTf.out.low.block 0
        have hfe1 : We2.frozen? ⟨B + 1, 1, none⟩ = false := HFZ.out We2 HTf.out.low.block 1
        have HFIN := Lib.hid (HNEXT.out We2 _ _ HTf.out)
        refine anyR.step (i := 16) rfl (by kernel_rfl) (fun K' hK => ?_)
        go_simp
        refine hK.out _ _ (not_more (by kernel_rfl)) (fun _ => ?_)
        try simp only [List.setIfInBounds_toArray, List.set_cons_zero, List.set_cons_succ]
        refine anyR.free (i := 17) (v := ?gv17a) rfl (by kernel_rfl) (fun _ _ _ h => h) (by rfl) (fun _ => rfl) (fun w => ?gy17a) (not_more (by kernel_rfl)) ?gr17a
        case gy17a =>
          go_simp
          try with_reducible rfl
        try simp only [Act.put, List.setIfInBounds_toArray, List.set_cons_zero, List.set_cons_succ]
        refine anyR.step (i := 18) rfl (by kernel_rfl) (fun K' hK => ?_)
        go_simp
        refine hK.out _ _ (not_more (by kernel_rfl)) (fun _ => ?_)
        refine anyR.done (by kernel_rfl) ?_
        gi_wp2
        have hfin := HFIN.out
        simp only [List.length_map] at hfin
        exact hfin
      · go_simp
        have HTb : Hid (TrS (B + 5) w1 ((Wd.alloc (.cells #[.int .i64 z] 3)).alloc (.cells #[.string nm] 9)) _ _ _ _) := HTa.out.up (Up.alloc _ _) hSa
        have hSb : B + 5 ≤ ((Wd.alloc (.cells #[.int .i64 z] 3)).alloc (.cells #[.string nm] 9)).heap.size := Nat.le_trans hSa (Up.alloc _ _).size
        refine hK.out _ _ (fun _ => HTb.out.low.block) (fun _ => ?_)
        try simp only [List.setIfInBounds_toArray, List.set_cons_zero, List.set_cons_succ]
        have hcN := cell_at_new (Wd.alloc (.cells #[.int .i64 z] 3)) #[.string nm] 9 0
        have hcP := (Up.alloc (Wd.alloc (.cells #[.int .i64 z] 3)) (.cells #[.string nm] 9)).cell (cell_at_new Wd #[.int .i64 z] 3 0)
        rw [World.size_alloc] at hcN
        refine anyR.step (i := 6) rfl (by kernel_rfl) (fun K' hK => ?_)
        refine step_app1R (by rfl) _ _ _ (by rfl) (B + 5) 3 _ 8 Tryz.underlying26 Tryz.infoI (by rfl) (by decide) (by rfl) HTb.out.pown (.int .i64 z) Wd.heap.size (by rfl) hcP (by rfl) (by rw [List.length_map, HPL.out.1]; omega) hSb ?_
        intro g1 g1c We1 hog1 hgg1 hrg1 _
        have HTc : Hid (TrS (B + 5) w1 We1 _ _ _ _) := HTb.out.appP hSb hog1 hgg1 (hrg1.imp id (fun e => Nat.le_of_eq e.symm))
        have hSc : B + 5 ≤ We1.heap.size := Nat.le_trans hSb hgg1.size
        have hcN1 : We1.cell? ⟨Wd.heap.size + 1, 0, none⟩ = some (.string nm) := by
          rw [hgg1.cell_far ⟨Wd.heap.size + 1, 0, none⟩ (by simp) (fun e => absurd (ownBlock_lt HTd.out.pown e.symm).2 (by show ¬ (Wd.heap.size + 1 < Wd.heap.size); omega))]; exact hcN
        refine hK.out _ _ (fun _ => HTc.out.low.block) (fun _ => ?_)
        try simp only [Act.put, List.setIfInBounds_toArray, List.set_cons_zero, List.set_cons_succ]
        refine anyR.free (i := 15) (v := ?gv15b) rfl (by kernel_rfl) (fun _ _ _ h => h) (by rfl) (fun _ => rfl) (fun w => ?gy15b) (fun _ => HTc.out.low.block) ?gr15b
        case gy15b =>
          go_simp
          try with_reducible rfl
        try simp only [Act.put, List.setIfInBounds_toArray, List.set_cons_zero, List.set_cons_succ]
        refine anyR.step (i := 14) rfl (by kernel_rfl) (fun K' hK => ?_)
        refine step_app1R (by rfl) _ _ _ (by rfl) (B + 5) 9 _ 16 Tryz.underlying43 Tryz.infoStr (by rfl) (by decide) (by rfl) HTc.out.nown (.string nm) (Wd.heap.size + 1) (by rfl) hcN1 (by rfl) (by rw [List.length_map, HPL.out.2]; omega) hSc ?_
        intro g2 g2c We2 hog2 hgg2 hrg2 _
        have HTf : Hid (TrS (B + 5) w1 We2 _ _ _ _) := HTc.out.appN hSc hog2 hgg2 (hrg2.imp id (fun e => Nat.le_of_eq e.symm))
        have hSf : B + 5 ≤ We2.heap.size := Nat.le_trans hSc hgg2.size
        refine hK.out _ _ (fun _ => HTf.out.low.block) (fun _ => ?_)
        try simp only [Act.put, List.setIfInBounds_toArray, List.set_cons_zero, List.set_cons_succ]
        have hbe : We2.cell? ⟨B + 1, 0, none⟩ = some (.slice pp pre.length pc) := (HFACT.out We2 HTf.out.low.block).1
        have hbe1 : We2.cell? ⟨B + 1, 1, none⟩ = some (.slice np pre.length nc) := (HFACT.out We2 HTf.out.low.block).2.1
        have hfe : We2.frozen? ⟨B + 1, 0, none⟩ = false := HFZ.out We2 HTf.out.low.block 0
        have hfe1 : We2.frozen? ⟨B + 1, 1, none⟩ = false := HFZ.out We2 HTf.out.low.block 1
        have HFIN := Lib.hid (HNEXT.out We2 _ _ HTf.out)
        refine anyR.step (i := 16) rfl (by kernel_rfl) (fun K' hK => ?_)
        go_simp
        refine hK.out _ _ (not_more (by kernel_rfl)) (fun _ => ?_)
        try simp only [List.setIfInBounds_toArray, List.set_cons_zero, List.set_cons_succ]
        refine anyR.free (i := 17) (v := ?gv17b) rfl (by kernel_rfl) (fun _ _ _ h => h) (by rfl) (fun _ => rfl) (fun w => ?gy17b) (not_more (by kernel_rfl)) ?gr17b
        case gy17b =>
          go_simp
          try with_reducible rfl
        try simp only [Act.put, List.setIfInBounds_toArray, List.set_cons_zero, List.set_cons_succ]
        refine anyR.step (i := 18) rfl (by kernel_rfl) (fun K' hK => ?_)
        go_simp
        refine hK.out _ _ (not_more (by kernel_rfl)) (fun _ => ?_)
        refine anyR.done (by kernel_rfl) ?_
        gi_wp2
        have hfin := HFIN.out
        simp only [List.length_map] at hfin
        exact hfin
    · go_simp
      have HTa : Hid (TrS (B + 5) w1 (Wd.alloc (.cells #[.string nm] 9)) _ _ _ _) := HTd.out.up (Up.alloc _ _) hSz
      have hSa : B + 5 ≤ (Wd.alloc (.cells #[.string nm] 9)).heap.size := Nat.le_trans hSz (Up.alloc _ _).size
      refine hK.out _ _ (fun _ => HTa.out.low.block) (fun _ => ?_)
      try simp only [List.setIfInBounds_toArray, List.set_cons_zero, List.set_cons_succ]
      refine anyR.step (i := 5) rfl (by kernel_rfl) (fun K' hK => ?_)
      go_simp
      have HTb : Hid (TrS (B + 5) w1 ((Wd.alloc (.cells #[.string nm] 9)).alloc (.cells #[.int .i64 z] 3)) _ _ _ _) := HTa.out.up (Up.alloc _ _) hSa
      have hSb : B + 5 ≤ ((Wd.alloc (.cells #[.string nm] 9)).alloc (.cells #[.int .i64 z] 3)).heap.size := Nat.le_trans hSa (Up.alloc _ _).size
      refine hK.out _ _ (fun _ => HTb.out.low.block) (fun _ => ?_)
      try simp only [List.setIfInBounds_toArray, List.set_cons_zero, List.set_cons_succ]
      have hcP := cell_at_new (Wd.alloc (.cells #[.string nm] 9)) #[.int .i64 z] 3 0
      have hcN := (Up.alloc (Wd.alloc (.cells #[.string nm] 9)) (.cells #[.int .i64 z] 3)).cell (cell_at_new Wd #[.string nm] 9 0)
      rw [World.size_alloc] at hcP
      refine anyR.step (i := 6) rfl (by kernel_rfl) (fun K' hK => ?_)
      refine step_app1R (by rfl) _ _ _ (by rfl) (B + 5) 3 _ 8 Tryz.underlying26 Tryz.infoI (by rfl) (by decide) (by rfl) HTb.out.pown (.int .i64 z) (Wd.heap.size + 1) (by rfl) hcP (by rfl) (by rw [List.length_map, HPL.out.1]; omega) hSb ?_
      intro g1 g1c We1 hog1 hgg1 hrg1 _
      have HTc : Hid (TrS (B + 5) w1 We1 _ _ _ _) := HTb.out.appP hSb hog1 hgg1 (hrg1.imp id (fun e => Nat.le_of_eq e.symm))
      have hSc : B + 5 ≤ We1.heap.size := Nat.le_trans hSb hgg1.size
      have hcN1 : We1.cell? ⟨Wd.heap.size, 0, none⟩ = some (.string nm) := by
        rw [hgg1.cell_far ⟨Wd.heap.size, 0, none⟩ (by simp; omega) (fun e => absurd (ownBlock_lt HTd.out.pown e.symm).2 (by show ¬ (Wd.heap.size < Wd.heap.size); omega))]; exact hcN
      refine hK.out _ _ (fun _ => HTc.out.low.block) (fun _ => ?_)
      try simp only [Act.put, List.setIfInBounds_toArray, List.set_cons_zero, List.set_cons_succ]
      refine anyR.free (i := 15) (v := ?gv15c) rfl (by kernel_rfl) (fun _ _ _ h => h) (by rfl) (fun _ => rfl) (fun w => ?gy15c) (fun _ => HTc.out.low.block) ?gr15c
      case gy15c =>
        go_simp
        try with_reducible rfl
      try simp only [Act.put, List.setIfInBounds_toArray, List.set_cons_zero, List.set_cons_succ]
      refine anyR.step (i := 14) rfl (by kernel_rfl) (fun K' hK => ?_)
      refine step_app1R (by rfl) _ _ _ (by rfl) (B + 5) 9 _ 16 Tryz.underlying43 Tryz.infoStr (by rfl) (by decide) (by rfl) HTc.out.nown (.string nm) Wd.heap.size (by rfl) hcN1 (by rfl) (by rw [List.length_map, HPL.out.2]; omega) hSc ?_
      intro g2 g2c We2 hog2 hgg2 hrg2 _
      have HTf : Hid (TrS (B + 5) w1 We2 _ _ _ _) := HTc.out.appN hSc hog2 hgg2 (hrg2.imp id (fun e => Nat.le_of_eq e.symm))
      have hSf : B + 5 ≤ We2.heap.size := Nat.le_trans hSc hgg2.size
      refine hK.out _ _ (fun _ => HTf.out.low.block) (fun _ => ?_)
      try simp only [Act.put, List.setIfInBounds_toArray, List.set_cons_zero, List.set_cons_succ]
      have hbe : We2.cell? ⟨B + 1, 0, none⟩ = some (.slice pp pre.length pc) := (HFACT.out We2 HTf.out.low.block).1
      have hbe1 : We2.cell? ⟨B + 1, 1, none⟩ = some (.slice np pre.length nc) := (HFACT.out We2 HTf.out.low.block).2.1
      have hfe : We2.frozen? ⟨B + 1, 0, none⟩ = false := HFZ.out We2 HTf.out.low.block 0
      have hfe1 : We2.frozen? ⟨B + 1, 1, none⟩ = false := HFZ.out We2 HTf.out.low.block 1
      have HFIN := Lib.hid (HNEXT.out We2 _ _ HTf.out)
      refine anyR.step (i := 16) rfl (by kernel_rfl) (fun K' hK => ?_)
      go_simp
      refine hK.out _ _ (not_more (by kernel_rfl)) (fun _ => ?_)
      try simp only [List.setIfInBounds_toArray, List.set_cons_zero, List.set_cons_succ]
      refine anyR.free (i := 17) (v := ?gv17c) rfl (by kernel_rfl) (fun _ _ _ h => h) (by rfl) (fun _ => rfl) (fun w => ?gy17c) (not_more (by kernel_rfl)) ?gr17c
      case gy17c =>
        go_simp
        try with_reducible rfl
      try simp only [Act.put, List.setIfInBounds_toArray, List.set_cons_zero, List.set_cons_succ]
      refine anyR.step (i := 18) rfl (by kernel_rfl) (fun K' hK => ?_)
      go_simp
      refine hK.out _ _ (not_more (by kernel_rfl)) (fun _ => ?_)
      refine anyR.done (by kernel_rfl) ?_
      gi_wp2
      have hfin := HFIN.out
      simp only [List.length_map] at hfin
      exact hfin
  · rintro D xs W hD hS ⟨hks, hbw, Pv, Nv, hbox, hTS, hmp, huq⟩ hK
    have hb0 : W.cell? ⟨B + 1, 0, none⟩ = some Pv := by simp [World.cell?, hbox]
    have hb1 : W.cell? ⟨B + 1, 1, none⟩ = some Nv := by simp [World.cell?, hbox]
    have hrr : W.heap[B]? = some (Obj.cells #[.slice none 0 0, .slice none 0 0] 45 (0, 0)) := (hks B ⟨by omega, by omega, by omega⟩).trans hr6
    have hok : NumOk n xs.length (numL F (ndv xs)) := numOk xs
    obtain ⟨pp, pc, rfl, _⟩ := hTS.pown.form (n := xs.length) (by rw [List.length_map]; exact hok.lp)
    obtain ⟨np, nc, rfl, _⟩ := hTS.nown.form (n := xs.length) (by rw [List.length_map]; exact hok.ln)
    have hr0 : W.cell? ⟨B, 0, none⟩ = some (.slice none 0 0) := by simp [World.cell?, hrr]
    have hr1 : W.cell? ⟨B, 1, none⟩ = some (.slice none 0 0) := by simp [World.cell?, hrr]
    have hf0 : W.frozen? ⟨B, 0, none⟩ = false := by simp [World.frozen?, hrr]
    have hf1 : W.frozen? ⟨B, 1, none⟩ = false := by simp [World.frozen?, hrr]
    gi_wp2_with fail
    have hD2 : D ≠ B := by omega
    have hK2 : ((W.setCell ⟨B, 0, none⟩ (.slice pp xs.length pc)).setCell ⟨B, 1, none⟩ (.slice np xs.length nc)).heap[D]? = some (.deferred (some [])) := by
      rw [blk_setCell_other _ _ _ _ hD2, blk_setCell_other _ _ _ _ hD2]; exact hK
    refine ⟨by simp, .inl ⟨_, _, rfl, run_takeDeferred hK2, ?_⟩⟩
    have hheap : ((W.setCell ⟨B, 0, none⟩ (.slice pp xs.length pc)).setCell ⟨B, 1, none⟩ (.slice np xs.length nc)).heap[B]? = some (Obj.cells #[.slice pp xs.length pc, .slice np xs.length nc] 45 (0, 0)) := by
      simp [World.setCell, Array.getElem?_modify, hrr]
    have hq : ∀ b, b ≠ D → (((W.setCell ⟨B, 0, none⟩ (.slice pp xs.length pc)).setCell ⟨B, 1, none⟩ (.slice np xs.length nc)).putObj D (.deferred none)).heap[b]? = ((W.setCell ⟨B, 0, none⟩ (.slice pp xs.length pc)).setCell ⟨B, 1, none⟩ (.slice np xs.length nc)).heap[b]? := fun b hb => World.putObj_heap_other hb
    have hheap2 := (hq B (Ne.symm hD2)).trans hheap
    have hbo : ∀ b, b ≠ B → ((W.setCell ⟨B, 0, none⟩ (.slice pp xs.length pc)).setCell ⟨B, 1, none⟩ (.slice np xs.length nc)).heap[b]? = W.heap[b]? := fun b hb => by rw [blk_setCell_other _ _ _ _ hb, blk_setCell_other _ _ _ _ hb]
    have hsz : (((W.setCell ⟨B, 0, none⟩ (.slice pp xs.length pc)).setCell ⟨B, 1, none⟩ (.slice np xs.length nc)).putObj D (.deferred none)).heap.size = W.heap.size := by simp [World.size_setCell]
    have hos : (((W.setCell ⟨B, 0, none⟩ (.slice pp xs.length pc)).setCell ⟨B, 1, none⟩ (.slice np xs.length nc)).putObj D (.deferred none)).os = W.os ∧ (((W.setCell ⟨B, 0, none⟩ (.slice pp xs.length pc)).setCell ⟨B, 1, none⟩ (.slice np xs.length nc)).putObj D (.deferred none)).tape = W.tape ∧ (((W.setCell ⟨B, 0, none⟩ (.slice pp xs.length pc)).setCell ⟨B, 1, none⟩ (.slice np xs.length nc)).putObj D (.deferred none)).output = W.output := ⟨rfl, rfl, rfl⟩
    generalize ((W.setCell ⟨B, 0, none⟩ (.slice pp xs.length pc)).setCell ⟨B, 1, none⟩ (.slice np xs.length nc)).putObj D (.deferred none) = We at *
    have hc0 : We.cell? ⟨B, 0, none⟩ = some (.slice pp xs.length pc) := by simp [World.cell?, hheap2]
    have hc1 : We.cell? ⟨B, 1, none⟩ = some (.slice np xs.length nc) := by simp [World.cell?, hheap2]
    have hown : ∀ {e : TypeId} {v : Value} {vs : List Value}, Owns (B + 5) e W v vs → Owns (B + 5) e We v vs := fun ho => ho.same fun b hb => by
      have h1 := (ownBlock_lt ho hb).1
      obtain ⟨c, hc⟩ := ho.typed hb
      have hbD : b ≠ D := fun e => by subst e; rw [hK] at hc; cases hc
      rw [hq b hbD, hbo b (by omega)]
    refine ⟨.agg #[.slice pp xs.length pc, .slice np xs.length nc], by simp [results, Tryz.results113, go_sem, hc0, hc1], ?_, _, rfl, .slice pp xs.length pc, .slice np xs.length nc, rfl, ?_, ?_⟩
    · have hX := HX.out
      have hBw := HB.out
      refine ⟨hos.1.trans (hbw.os.trans hX.os), hos.2.1.trans (hbw.tape.trans hX.tape), hos.2.2.trans (hbw.output.trans hX.output), ?_, fun b hb => ?_⟩
      · rw [hsz]; have h1 := hX.size; have h2 := hbw.size; omega
      · rw [hBw] at hb
        rw [hq b (by omega), hbo b (by omega), hbw.block b (by omega)]
        exact Below.block hX b (by rw [hBw]; exact hb)
    · show IntsAt (fun b => w.heap.size ≤ b) We _ (numL F (seqF F rk i none)).ps
      rw [← hS, HB.out]
      exact (hown hTS.pown).ints.sub fun b (hb : B + 5 ≤ b) _ => (by omega : B ≤ b)
    · show StrsAt (fun b => w.heap.size ≤ b) We _ (numL F (seqF F rk i none)).ns
      rw [← hS, HB.out]
      exact (hown hTS.nown).strs.sub fun b (hb : B + 5 ≤ b) _ => (by omega : B ≤ b)
  · rintro D c pre W _ _ h _
    exact h.elim
end Go.Proofs.YtpjijbophjdgaaaGreat
