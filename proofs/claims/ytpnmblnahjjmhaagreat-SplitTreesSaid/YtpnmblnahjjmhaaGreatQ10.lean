/- The contract of phylotree.tree. -/
import Derived.Test.YtpnmblnahjjmhaaGreatQ1
import Derived.Test.YtpnmblnahjjmhaaGreatQ9
import Derived.RangeFuncWrites
set_option maxRecDepth 100000
namespace Go.Proofs.YtpnmblnahjjmhaaGreat
open Go.RowKit Go.Shelf Go.Deep
attribute [local go_sem] Oper.semAt_some
theorem Tryz.CE : (Tryz.prog.info? 9).map (fun i => (i.zero, i.size, i.bytes)) = some (some (.string ⟨#[]⟩), 1, 16) := by kernel_rfl
def ku (l : List (Option Nat × Int)) (k : Option Nat) (v : Int) : List (Option Nat × Int) := if (l.lookup k).isNone then l ++ [(k, v)] else l.map fun x => if x.1 = k then (k, v) else x
structure vY where
 mp : List (Option Nat × Int)
 ps : List Int
 ns : List ByteArray
def ny (F : aT) (s : vY) (x : Nat × Option Nat) : vY :=
 ⟨ku s.mp (some x.1) s.ps.length, s.ps ++ [((ku s.mp (some x.1) s.ps.length).lookup x.2).getD 0], s.ns ++ [F.nm x.1]⟩
def CF : vY := ⟨[(none, -1)], [], []⟩
def cM (F : aT) (l : List (Nat × Option Nat)) : vY := l.foldl (ny F) CF
theorem xu (F : aT) (l : List (Nat × Option Nat)) (x : Nat × Option Nat) : cM F (l ++ [x]) = ny F (cM F l) x := by simp [cM]
def fG (F : aT) (rk : Nat → Nat) (i : Nat) : aA := ⟨(cM F (dQ F rk i none)).ps, (cM F (dQ F rk i none)).ns⟩
def lI (A : Nat → Nat) (l : List (Option Nat × Int)) : List (Option Nat × Value) := l.map fun x => (x.1.map A, .int .i64 x.2)
def ur (n : Nat) (l : List (Option Nat × Int)) : Prop := ∀ x ∈ l, ∀ k, x.1 = some k → k < n
theorem map_inj {A : Nat → Nat} {n : Nat} (hinj : ∀ i j, i < n → j < n → A i = A j → i = j) {x y : Option Nat} (hx : ∀ k, x = some k → k < n) (hy : ∀ k, y = some k → k < n) (h : x.map A = y.map A) : x = y := by
 cases x with
 | none => cases y with
  | none => rfl
  | some b => cases h
 | some a => cases y with
  | none => cases h
  | some b =>
   simp only [Option.map_some, Option.some.injEq] at h
   rw [hinj a b (hx a rfl) (hy b rfl) h]
theorem zn {A : Nat → Nat} {n : Nat} (hinj : ∀ i j, i < n → j < n → A i = A j → i = j) {k : Option Nat} (hk : ∀ j, k = some j → j < n) : ∀ {l : List (Option Nat × Int)}, ur n l → (lI A l).lookup (k.map A) = (l.lookup k).map (Value.int .i64) := by
 intro l
 induction l with
 | nil => intro _; rfl
 | cons x l ih =>
  intro hl
  obtain ⟨x1, x2⟩ := x
  have hl2 : ur n l := fun z hz => hl z (by simp [hz])
  show List.lookup (k.map A) ((x1.map A, Value.int .i64 x2) :: lI A l) = _
  rw [List.lookup_cons, List.lookup_cons]
  by_cases h : k = x1
  ·subst h; simp
  ·have h1 : (k == x1) = false := by simpa using h
   have h2 : (k.map A == x1.map A) = false := by
    simp only [beq_eq_false_iff_ne, ne_eq]
    exact fun e => h (map_inj hinj hk (fun j hj => hl (x1, x2) (by simp) j hj) e)
   rw [h1, h2]; exact ih hl2
theorem Rw {A : Nat → Nat} {n : Nat} (hinj : ∀ i j, i < n → j < n → A i = A j → i = j) {k : Option Nat} (hk : ∀ j, k = some j → j < n) {l : List (Option Nat × Int)} (hl : ur n l) (v : Int) : tI (lI A l) (k.map A) (.int .i64 v) = lI A (ku l k v) := by
 unfold tI ku
 rw [zn hinj hk hl]
 cases h : l.lookup k with
 | none => simp [lI]
 | some y =>
  simp only [Option.map_some, Option.isNone_some, Bool.false_eq_true, if_false]
  unfold lI
  rw [List.map_map, List.map_map]
  refine List.map_congr_left fun x hx => ?_
  show (if x.1.map A = k.map A then (k.map A, Value.int .i64 v) else (x.1.map A, Value.int .i64 x.2)) = ((if x.1 = k then (k, v) else x).1.map A, Value.int .i64 (if x.1 = k then (k, v) else x).2)
  by_cases e : x.1 = k
  ·rw [if_pos (by rw [e]), if_pos e]
  ·rw [if_neg (fun e2 => e (map_inj hinj (fun j hj => hl x hx j hj) hk e2)), if_neg e]
theorem Oi {n : Nat} {l : List (Option Nat × Int)} (hl : ur n l) {k : Option Nat} (hk : ∀ j, k = some j → j < n) (v : Int) : ur n (ku l k v) := by
 intro x hx
 unfold ku at hx
 split at hx
 ·rcases List.mem_append.1 hx with h | h
  ·exact hl x h
  ·have : x = (k, v) := by simpa using h
   subst this; exact hk
 ·obtain ⟨y, hy, e⟩ := List.mem_map.1 hx
  split at e
  ·subst e; exact hk
  ·subst e; exact hl y hy
structure ql (n m : Nat) (s : vY) : Prop where
 keys : ur n s.mp
 lp : s.ps.length = m
 ln : s.ns.length = m
theorem ql.step {n m : Nat} {s : vY} {F : aT} (h : ql n m s) (x : lz n) : ql n (m + 1) (ny F s x.1) :=
 ⟨Oi h.keys (fun j hj => by cases hj; exact x.2.1) _, by show (s.ps ++ [_]).length = _; rw [List.length_append, h.lp]; rfl, by show (s.ns ++ [_]).length = _; rw [List.length_append, h.ln]; rfl⟩
theorem LP {n : Nat} {F : aT} : ∀ (l : List (lz n)) (m : Nat) (s : vY), ql n m s → ql n (m + l.length) ((bV l).foldl (ny F) s) := by
 intro l
 induction l with
 | nil => intro m s h; exact h
 | cons x l ih =>
  intro m s h
  have h2 := ih (m + 1) _ (h.step (F := F) x)
  rw [show m + (x :: l).length = m + 1 + l.length by simp; omega]
  exact h2
theorem LQ {n : Nat} {F : aT} (l : List (lz n)) : ql n l.length (cM F (bV l)) := by
 have h := LP (F := F) l 0 CF ⟨fun x hx k hk => (by
  have : x = (none, -1) := by simpa [CF] using hx
  subst this; cases hk), rfl, rfl⟩
 rw [Nat.zero_add] at h; exact h
def Oj (w : World) (t : aA) (e : Ending) (w' : World) : Prop := Up w w' ∧ ∃ v, e = .returned v ∧ aG (fun b => w.heap.size ≤ b) w' v t
structure jL (B0 : Nat) (w1 W : World) (Pv Nv : Value) (ps : List Int) (ns : List ByteArray) : Prop where
 bg : ah B0 3 W Pv (ps.map (Value.int .i64))
 bA : ah B0 9 W Nv (ns.map Value.string)
 apart : ∀ b, Pv.ownBlock = some b → Nv.ownBlock ≠ some b
 low : Below B0 w1 W
 fns : ∀ (b : Nat) (c : Array Value) (z : Nat × Nat), w1.heap[b]? = some (Obj.cells c 270 z) → W.heap[b]? = w1.heap[b]?
 far : KeepsFrom B0 w1 W
section
variable {B0 : Nat} {w1 W W' : World} {Pv Nv : Value} {ps : List Int} {ns : List ByteArray}
theorem ah.typed {base : Nat} {e : TypeId} {w : World} {v : Value} {vs : List Value} (h : ah base e w v vs) {b : Nat} (hb : v.ownBlock = some b) : ∃ c, w.heap[b]? = some (Obj.cells c e (0, 0)) := by
 obtain ⟨_, ⟨rfl, _⟩ | ⟨g, cap, cur, rfl, _, hc, _⟩⟩ := h
 ·cases hb
 ·injection hb with hb; subst hb; exact ⟨cur, hc⟩
theorem jL.up (h : jL B0 w1 W Pv Nv ps ns) (hu : Up W W') (hB : B0 ≤ W.heap.size) : jL B0 w1 W' Pv Nv ps ns :=
 ⟨h.bg.same fun b hb => Below.block hu b (ax h.bg hb).2, h.bA.same fun b hb => Below.block hu b (ax h.bA hb).2, h.apart, Below.trans h.low (Below.mono hu hB), fun b c z hb => by
  have h1 := h.fns b c z hb
  rw [← h1]
  exact Below.block hu b (by rw [hb] at h1; exact (Array.getElem?_eq_some_iff.1 h1).1), h.far.trans ⟨hu.size, fun k o _ hk _ => (Below.block hu k (Array.getElem?_eq_some_iff.1 hk).1).trans hk⟩⟩
theorem jL.oC (h : jL B0 w1 W Pv Nv ps ns) (hB : B0 ≤ W.heap.size) {g cap k : Nat} {u : Int} (ho : ah B0 3 W' (.slice (some ⟨g, 0, none⟩) k cap) (ps.map (Value.int .i64) ++ [.int .i64 u])) (hg : W.grownBy W' Pv.ownBlock) (eL : Pv.ownBlock = some g ∨ W.heap.size ≤ g) :
  jL B0 w1 W' (.slice (some ⟨g, 0, none⟩) k cap) Nv (ps ++ [u]) ns := by
 refine ⟨by rw [List.map_append]; exact ho, h.bA.same fun b hb => hg.block b (ax h.bA hb).2 (fun e => h.apart b e.symm hb), fun b hb hb2 => ?_, Below.trans h.low (h.bg.eW hg hB), fun b c z hb => ?_, h.far.trans ⟨hg.size, fun k o _ hk hc => (hg.block k (Array.getElem?_eq_some_iff.1 hk).1 (fun e => ?_)).trans hk⟩⟩
 ·injection hb with hb
  have hb : g = b := hb
  subst hb
  rcases eL with h1 | h1
  ·exact h.apart g h1 hb2
  ·have := (ax h.bA hb2).2; omega
 ·have h1 := h.fns b c z hb
  rw [← h1]
  refine hg.block b (by rw [hb] at h1; exact (Array.getElem?_eq_some_iff.1 h1).1) (fun e => ?_)
  obtain ⟨c2, h2⟩ := h.bg.typed e.symm
  rw [h1, hb] at h2
  injection h2 with h2
  injection h2 with _ h2 _
  cases h2
 ·obtain ⟨c2, h2⟩ := h.bg.typed e.symm
  rw [h2] at hk; injection hk with hk; subst hk; cases hc
theorem jL.nA (h : jL B0 w1 W Pv Nv ps ns) (hB : B0 ≤ W.heap.size) {g cap k : Nat} {u : ByteArray} (ho : ah B0 9 W' (.slice (some ⟨g, 0, none⟩) k cap) (ns.map Value.string ++ [.string u])) (hg : W.grownBy W' Nv.ownBlock) (eL : Nv.ownBlock = some g ∨ W.heap.size ≤ g) :
  jL B0 w1 W' Pv (.slice (some ⟨g, 0, none⟩) k cap) ps (ns ++ [u]) := by
 refine ⟨h.bg.same fun b hb => hg.block b (ax h.bg hb).2 (fun e => h.apart b hb e.symm), by rw [List.map_append]; exact ho, fun b hb hb2 => ?_, Below.trans h.low (h.bA.eW hg hB), fun b c z hb => ?_, h.far.trans ⟨hg.size, fun k o _ hk hc => (hg.block k (Array.getElem?_eq_some_iff.1 hk).1 (fun e => ?_)).trans hk⟩⟩
 ·injection hb2 with hb2
  have hb2 : g = b := hb2
  subst hb2
  rcases eL with h1 | h1
  ·exact h.apart g hb h1
  ·have := (ax h.bg hb).2; omega
 ·have h1 := h.fns b c z hb
  rw [← h1]
  refine hg.block b (by rw [hb] at h1; exact (Array.getElem?_eq_some_iff.1 h1).1) (fun e => ?_)
  obtain ⟨c2, h2⟩ := h.bA.typed e.symm
  rw [h1, hb] at h2
  injection h2 with h2
  injection h2 with _ h2 _
  cases h2
 ·obtain ⟨c2, h2⟩ := h.bA.typed e.symm
  rw [h2] at hk; injection hk with hk; subst hk; cases hc
end
def DG (n B0 Bt m : Nat) (A : Nat → Nat) (F : aT) (T : Nat → Prop) (w6 : World) (pre : List (lz n)) (W : World) : Prop :=
 KS T w6 W ∧ Below (Bt) w6 W ∧ ∃ Pv Nv, W.heap[Bt]? = some (Obj.cells #[Pv, Nv] 39 (0, 0)) ∧ jL B0 W W Pv Nv (cM F (bV pre)).ps (cM F (bV pre)).ns ∧ jg W m (lI A (cM F (bV pre)).mp) ∧ uY (lI A (cM F (bV pre)).mp)
theorem DG.own {n B : Nat} {A : Nat → Nat} {F : aT} {w6 : World} (hz : w6.heap.size = B + 5) : OwnFrom w6.heap.size (DG n (B + 5) (B + 1) (B + 1 + 1) A F (fun b => b < B + 5 ∧ b ≠ B + 1 ∧ b ≠ B + 1 + 1) w6) := by
 intro s X Y row hs hg hr
 obtain ⟨hk, hb, Pv, Nv, fc, hT, hm, hu⟩ := hs
 have hsz : B + 5 ≤ X.heap.size := by have := hb.size; omega
 have mz : ∀ b, b < B + 5 → Y.heap[b]? = X.heap[b]? := fun b hb2 => hg.block b (by omega) (fun e => by obtain ⟨h1, _⟩ := hr b e.symm; omega)
 have hcell : ∀ (b : Nat) (c : Array Value) (e : TypeId) (z : Nat × Nat), X.heap[b]? = some (Obj.cells c e z) → Y.heap[b]? = X.heap[b]? := fun b c e z hc => hg.block b (Array.getElem?_eq_some_iff.1 hc).1 (fun e2 => by
  obtain ⟨_, o, h1, h2⟩ := hr b e2.symm
  rw [hc] at h1; injection h1 with h1; subst h1; cases h2)
 refine ⟨fun b hb2 => (mz b hb2.1).trans (hk b hb2), ⟨hg.os.trans hb.os, hg.tape.trans hb.tape, hg.output.trans hb.output, Nat.le_trans hb.size hg.size, fun b hb2 => (mz b (by omega)).trans (hb.block b hb2)⟩, Pv, Nv, (mz _ (by omega)).trans fc, ?_, hm.of_block (mz _ (by omega)), hu⟩
 refine ⟨hT.bg.same fun b hb2 => ?_, hT.bA.same fun b hb2 => ?_, hT.apart, Below.refl _ _, fun _ _ _ _ => rfl, KeepsFrom.refl _ _⟩
 ·obtain ⟨c, hc⟩ := hT.bg.typed hb2; exact hcell _ _ _ _ hc
 ·obtain ⟨c, hc⟩ := hT.bA.typed hb2; exact hcell _ _ _ _ hc
theorem DG.next {n B : Nat} {A : Nat → Nat} {F : aT} {w6 W w1 We : World} (hz : w6.heap.size = B + 5) {pre : List (lz n)} {x : lz n} (hks : KS (fun b => b < B + 5 ∧ b ≠ B + 1 ∧ b ≠ B + 1 + 1) w6 W) (fu : Below (B + 1) w6 W)
  {P0 N0 : Value} (fc : W.heap[B + 1]? = some (Obj.cells #[P0, N0] 39 (0, 0))) {es : List (Option Nat × Value)} (hmp0 : jg W (B + 1 + 1) es)
  (CG : jg w1 (B + 1 + 1) (lI A (cM F (bV (pre ++ [x]))).mp)) (J6 : uY (lI A (cM F (bV (pre ++ [x]))).mp)) (hs1 : w1.heap.size = W.heap.size) (Ud : w1.os = W.os) (LR : w1.tape = W.tape) (LS : w1.output = W.output) (hb1 : ∀ j, j ≠ B + 1 + 1 → w1.heap[j]? = W.heap[j]?)
  {Pv Nv : Value} (hT : jL (B + 5) w1 We Pv Nv (cM F (bV (pre ++ [x]))).ps (cM F (bV (pre ++ [x]))).ns) :
  KeepsFrom w6.heap.size W ((We.setCell ⟨B + 1, 0, none⟩ Pv).setCell ⟨B + 1, 1, none⟩ Nv) ∧ KN (fun b => b < B + 5 ∧ b ≠ B + 1 ∧ b ≠ B + 1 + 1) W ((We.setCell ⟨B + 1, 0, none⟩ Pv).setCell ⟨B + 1, 1, none⟩ Nv) ∧
   DG n (B + 5) (B + 1) (B + 1 + 1) A F (fun b => b < B + 5 ∧ b ≠ B + 1 ∧ b ≠ B + 1 + 1) w6 (pre ++ [x]) ((We.setCell ⟨B + 1, 0, none⟩ Pv).setCell ⟨B + 1, 1, none⟩ Nv) := by
 have bD : ∀ b, b ≠ B + 1 → ((We.setCell ⟨B + 1, 0, none⟩ Pv).setCell ⟨B + 1, 1, none⟩ Nv).heap[b]? = We.heap[b]? := fun b hb => by rw [blk_setCell_other _ _ _ _ hb, blk_setCell_other _ _ _ _ hb]
 have hsz : ((We.setCell ⟨B + 1, 0, none⟩ Pv).setCell ⟨B + 1, 1, none⟩ Nv).heap.size = We.heap.size := by simp [World.size_setCell]
 have sM : We.heap[B + 1]? = some (Obj.cells #[P0, N0] 39 (0, 0)) := (hT.low.block (B + 1) (by omega)).trans ((hb1 _ (by omega)).trans fc)
 have xw : ((We.setCell ⟨B + 1, 0, none⟩ Pv).setCell ⟨B + 1, 1, none⟩ Nv).heap[B + 1]? = some (Obj.cells #[Pv, Nv] 39 (0, 0)) := by
  simp [World.setCell, Array.getElem?_modify, sM]
 have WW : KS (fun b => b < B + 5 ∧ b ≠ B + 1 ∧ b ≠ B + 1 + 1) W ((We.setCell ⟨B + 1, 0, none⟩ Pv).setCell ⟨B + 1, 1, none⟩ Nv) := fun b hb => (bD b hb.2.1).trans ((hT.low.block b hb.1).trans (hb1 b hb.2.2))
 refine ⟨⟨?_, fun k o hk ho hc => ?_⟩, ⟨WW, fun b c z hb => ?_⟩, hks.trans WW, ⟨hT.low.os.trans (Ud.trans fu.os), hT.low.tape.trans (LR.trans fu.tape), hT.low.output.trans (LS.trans fu.output), ?_, fun b hb => (WW b ⟨by omega, by omega, by omega⟩).trans (fu.block b hb)⟩, Pv, Nv, xw, ⟨hT.bg.same fun b hb => bD b (by have := (ax hT.bg hb).1; omega), hT.bA.same fun b hb => bD b (by have := (ax hT.bA hb).1; omega), hT.apart, Below.refl _ _, fun _ _ _ _ => rfl, KeepsFrom.refl _ _⟩, CG.of_block ((bD _ (by omega)).trans (hT.low.block _ (by omega))), J6⟩
 ·rw [hsz, ← hs1]; exact hT.low.size
 ·rw [bD k (by omega)]
  exact hT.far.same k o (by omega) ((hb1 k (by omega)).trans ho) hc
 ·have hne : b ≠ B + 1 + 1 := fun e => by
   subst e
   obtain ⟨es', ck, h1, _⟩ := hmp0
   rw [h1] at hb; cases hb
  have z7 : b ≠ B + 1 := fun e => by
   subst e
   rw [fc] at hb
   injection hb with hb
   injection hb with _ hb _
   cases hb
  rw [bD b z7, hT.fns b c z (by rw [hb1 b hne]; exact hb), hb1 b hne]
 ·rw [hsz]; have h1 := hT.low.size; have h2 := fu.size; omega
set_option maxHeartbeats 4000000 in
theorem Ol {n base : Nat} {A : Nat → Nat} {kv : Nat → Value} {F : aT} {rk : Nat → Nat} (hwf : Wf F n rk) (hlen : ∀ i, i < n → (F.kids i).length ≤ 1000) (w : World) (i : Nat) (hi : i < n) (hF : bB base n A kv F w) (hN : (dQ F rk i none).length ≤ 100000) :
  Calls Tryz.prog 175 #[.pointer (some ⟨A i, 0, none⟩)] w (Oj w (fG F rk i)) := by
 refine (callsIn_wide (n := 9)).1 ?_
 refine callsIn_of_wp_marks Tryz.func175 rfl trivial ?_ rfl
 simp only [Tryz.ntmps175, List.size_toArray, List.length_cons, List.length_nil, Nat.reduceAdd, Nat.reduceSub, Array.replicate_succ, Array.replicate_zero, List.push_toArray, List.append_toArray, List.nil_append, List.cons_append]
 have hmm := fun W => run_makeMap (P := Tryz.prog) 224 W
 obtain ⟨w3, hw3⟩ : ∃ w3, w3 = ((w.alloc (.cells #[.slice none 0 0, .slice none 0 0] 39)).alloc (.cells #[.slice none 0 0, .slice none 0 0] 39)).alloc (.map #[] 0) := ⟨_, rfl⟩
 have bR : Up w w3 := by rw [hw3]; exact ((Up.alloc _ _).trans (Up.alloc _ _)).trans (Up.alloc _ _)
 have hz3 : w3.heap.size = w.heap.size + 3 := by rw [hw3]; simp
 have hp3 : jg w3 (w.heap.size + 1 + 1) [] := ⟨#[], 0, by
  rw [hw3]
  have h := blk_alloc_new ((w.alloc (.cells #[.slice none 0 0, .slice none 0 0] 39)).alloc (.cells #[.slice none 0 0, .slice none 0 0] 39)) (.map #[] 0)
  simp only [World.size_alloc] at h; exact h, rfl⟩
 have ht3 : w3.heap[w.heap.size + 1]? = some (Obj.cells #[.slice none 0 0, .slice none 0 0] 39 (0, 0)) := by
  rw [hw3, blk_alloc_lt _ _ _ (by simp)]
  have h := blk_alloc_new (w.alloc (.cells #[.slice none 0 0, .slice none 0 0] 39)) (.cells #[.slice none 0 0, .slice none 0 0] 39)
  rw [World.size_alloc] at h; exact h
 have hr3 : w3.heap[w.heap.size]? = some (Obj.cells #[.slice none 0 0, .slice none 0 0] 39 (0, 0)) := by
  rw [hw3, blk_alloc_lt _ _ _ (by simp; omega), blk_alloc_lt _ _ _ (by simp)]
  exact blk_alloc_new _ _
 obtain ⟨w4, bD, hp4, hs4, Om, WX, WY, hb4⟩ := FQ (P := Tryz.prog) Tryz.underlying224 Tryz.underlying137 Tryz.rz hp3 List.nodup_nil (k := none) (.int .i64 (-1)) trivial (fun x hx => by cases hx)
 have dL : Up w w4 := ⟨Om.trans bR.os, WX.trans bR.tape, WY.trans bR.output, by rw [hs4]; exact bR.size, fun b hb => (hb4 b (by omega)).trans (Below.block bR b hb)⟩
 have ht4 := (hb4 (w.heap.size + 1) (by omega)).trans ht3
 have hr4 := (hb4 w.heap.size (by omega)).trans hr3
 have hz4 : w4.heap.size = w.heap.size + 3 := hs4.trans hz3
 rw [hw3] at bD
 simp only [pk] at bD
 have fB := aa dL
 have J7 := aa ht4
 have HR4 := aa hr4
 have DI := aa hz4
 have DJ := aa hp4
 have HF := aa hF
 have FM := aa hwf
 have HLEN := aa hlen
 have HN := aa hN
 clear hw3 bR hz3 hp3 ht3 hr3 hp4 hs4 Om WX WY hb4 dL ht4 hr4 hz4 hF hwf hlen hN
 gi_wp2_with fail
 refine ⟨trivial, (callsIn_wide.2 (VA _ _)).mono ?_⟩
 rintro e w6 ⟨rfl, rfl⟩
 rw [World.size_alloc, DI.out]
 gi_wp2_with fail
 have gp : Up w4 ((w4.alloc (.cells #[.map (some (w.heap.size + 1 + 1))] 224)).alloc (.cells #[.pointer (some ⟨A i, 0, none⟩)] 137)) := (Up.alloc _ _).trans (Up.alloc _ _)
 have Oo : ((w4.alloc (.cells #[.map (some (w.heap.size + 1 + 1))] 224)).alloc (.cells #[.pointer (some ⟨A i, 0, none⟩)] 137)).heap.size = w.heap.size + 5 := by simp [DI.out]
 have Ue : ((w4.alloc (.cells #[.map (some (w.heap.size + 1 + 1))] 224)).alloc (.cells #[.pointer (some ⟨A i, 0, none⟩)] 137)).cell? ⟨w.heap.size + 3 + 1, 0, none⟩ = some (.pointer (some ⟨A i, 0, none⟩)) := by
  have h := bf (w4.alloc (.cells #[.map (some (w.heap.size + 1 + 1))] 224)) #[.pointer (some ⟨A i, 0, none⟩)] 137 0
  rw [World.size_alloc, DI.out] at h; exact h
 have hm6 : ((w4.alloc (.cells #[.map (some (w.heap.size + 1 + 1))] 224)).alloc (.cells #[.pointer (some ⟨A i, 0, none⟩)] 137)).cell? ⟨w.heap.size + 3, 0, none⟩ = some (.map (some (w.heap.size + 1 + 1))) := by
  have h := bf w4 #[.map (some (w.heap.size + 1 + 1))] 224 0
  rw [DI.out] at h
  exact (Up.alloc _ _).cell h
 have ht6 := (Below.block gp (w.heap.size + 1) (by rw [DI.out]; omega)).trans J7.out
 have Oq := (Below.block gp w.heap.size (by rw [DI.out]; omega)).trans HR4.out
 have hp6 := DJ.out.of_block (Below.block gp (w.heap.size + 1 + 1) (by rw [DI.out]; omega))
 have hF6 := (HF.out.up fB.out).up gp
 have WZ := fB.out.trans gp
 generalize (w4.alloc (.cells #[.map (some (w.heap.size + 1 + 1))] 224)).alloc (.cells #[.pointer (some ⟨A i, 0, none⟩)] 137) = w6 at *
 have hlt : ∀ j, j < n → A j < w.heap.size := fun j hj => HF.out.lt hj
 have hlo : ∀ j b, j < n → (kv j).ownBlock = some b → b < w.heap.size := fun j b hj hb => (HF.out.gL hj hb).2
 have hinj := HF.out.inj
 have HX := aa (show Up w w6 from WZ)
 clear gp WZ fB J7 HR4 DI DJ bD
 generalize hB : w.heap.size = B at *
 have HB : Hid (w.heap.size = B) := hB
 clear hB
 apply wpIn_rangeFunc_ownG (F := Fence.wide) (n := 9) (P := Tryz.prog) (ps := #[11, 12]) (w := w6) rfl (by omega) (gf := 279) (lb := #[.pointer (some ⟨B + 3 + 1, 0, none⟩)]) rfl trivial (enters_of Tryz.func279 (by kernel_rfl) rfl)
  (JB (T := fun b => b < B + 5 ∧ b ≠ B + 1 ∧ b ≠ B + 1 + 1) FM.out HLEN.out (fun j hj => ⟨by have := hlt j hj; omega, by have := hlt j hj; omega, by have := hlt j hj; omega⟩) (fun j b hj hb => ⟨by have := hlo j b hj hb; omega, by have := hlo j b hj hb; omega, by have := hlo j b hj hb; omega⟩) 8 (B + 3 + 1) i hi w6 (fun b hb => by rw [Oo]; exact hb.1) ⟨by omega, by omega, by omega⟩ hF6 Ue)
  (fun h k => KN.trans h k) (fun W l o o' hl ho hc _ => ⟨fun b hb => World.putObj_heap_other (by have := hb.1; omega), fun b c z hb => World.putObj_heap_other (fun e => by subst e; rw [hb] at ho; injection ho with ho; subst ho; cases hc)⟩) (Below.refl _ _) (fun _ => (rfl : (2 : Nat) = 2))
  (DG n (B + 5) (B + 1) (B + 1 + 1) A F (fun b => b < B + 5 ∧ b ≠ B + 1 ∧ b ≠ B + 1 + 1) w6) (fun _ _ _ => False)
 ·exact DG.own Oo
 ·exact fun _ _ _ _ _ h _ _ => h
 ·exact ⟨KS.refl _ _, Below.refl _ _, .slice none 0 0, .slice none 0 0, ht6, ⟨ah.nil _ _ _, ah.nil _ _ _, fun b hb => (by cases hb), Below.refl _ _, fun _ _ _ _ => rfl, KeepsFrom.refl _ _⟩, hp6, by simp [uY, lI, bV, cM, CF]⟩
 ·intro l x W K hK
  simp only [CD]
  gi_wp2
  exact hK
 ·rintro l pre x W ⟨hks, fu, Pv, Nv, fc, uu, hmp, J6⟩ hpl
  obtain ⟨⟨x1, xp⟩, hx1, rD⟩ := x
  have aM := aa hlt
  have W4 := aa hinj
  have hxl := hlt x1 hx1
  have Uf : bB base n A kv F W := hF6.same (fun j hj => hks (A j) ⟨by have := hlt j hj; omega, by have := hlt j hj; omega, by have := hlt j hj; omega⟩) (fun j b hj hb => hks b ⟨by have := hlo j b hj hb; omega, by have := hlo j b hj hb; omega, by have := hlo j b hj hb; omega⟩)
  have hok : ql n pre.length (cM F (bV pre)) := LQ pre
  have hb0 : W.cell? ⟨B + 1, 0, none⟩ = some Pv := by simp [World.cell?, fc]
  have hmb : W.cell? ⟨B + 3, 0, none⟩ = some (.map (some (B + 1 + 1))) := by rw [World.cell?_of_block (a := ⟨B + 3, 0, none⟩) (hks (B + 3) ⟨by omega, by omega, by omega⟩)]; exact hm6
  obtain ⟨pp, pc, rfl, _⟩ := uu.bg.form (n := pre.length) (by rw [List.length_map]; exact hok.lp)
  have hkeys : ∀ z ∈ lI A (cM F (bV pre)).mp, fV W z.1 := fun z hz => by
   obtain ⟨y, hy, rfl⟩ := List.mem_map.1 hz
   obtain ⟨y1, y2⟩ := y
   cases y1 with
   | none => trivial
   | some k => exact Uf.plain (hok.keys _ hy k rfl)
  obtain ⟨w1, bD, CG, hs1, Ud, LR, LS, hb1⟩ := FQ (P := Tryz.prog) Tryz.underlying224 Tryz.underlying137 Tryz.rz hmp J6 (k := some (A x1)) (.int .i64 (pre.length : Nat)) (Uf.plain hx1) hkeys
  simp only [pk] at bD
  have LU : pre.length ≤ 100000 := by have := HN.out; omega
  gi_wp2
  have oh : jL (B + 5) w1 w1 (.slice pp pre.length pc) Nv (cM F (bV pre)).ps (cM F (bV pre)).ns := ⟨uu.bg.same fun b hb => hb1 b (by have := (ax uu.bg hb).1; omega), uu.bA.same fun b hb => hb1 b (by have := (ax uu.bA hb).1; omega), uu.apart, Below.refl _ _, fun _ _ _ _ => rfl, KeepsFrom.refl _ _⟩
  obtain ⟨np, nc, rfl, _⟩ := uu.bA.form (n := pre.length) (by rw [List.length_map]; exact hok.ln)
  have hput : tI (lI A (cM F (bV pre)).mp) (some (A x1)) (.int .i64 (pre.length : Nat)) = lI A (cM F (bV (pre ++ [⟨(x1, xp), hx1, rD⟩]))).mp := by
   rw [uo, show bV [(⟨(x1, xp), hx1, rD⟩ : lz n)] = [(x1, xp)] from rfl, xu]
   show _ = lI A (ku (cM F (bV pre)).mp (some x1) ((cM F (bV pre)).ps.length : Nat))
   rw [hok.lp, ← Rw W4.out (fun j hj => by cases hj; exact hx1) hok.keys]; rfl
  rw [hput] at CG
  have W5 : uY (lI A (cM F (bV (pre ++ [⟨(x1, xp), hx1, rD⟩]))).mp) := by rw [← hput]; exact Og J6 _ _
  have Rx : ql n (pre ++ [(⟨(x1, xp), hx1, rD⟩ : lz n)]).length (cM F (bV (pre ++ [⟨(x1, xp), hx1, rD⟩]))) := LQ _
  have DD : bB base n A kv F w1 := Uf.same (fun j hj => hb1 _ (by have := aM.out j hj; omega)) (fun j b hj hb => hb1 _ (by have := hlo j b hj hb; omega))
  obtain ⟨z, hz⟩ : ∃ z : Int, z = (((cM F (bV (pre ++ [⟨(x1, xp), hx1, rD⟩]))).mp).lookup xp).getD 0 := ⟨_, rfl⟩
  have W9 : (cM F (bV (pre ++ [⟨(x1, xp), hx1, rD⟩]))).ps = (cM F (bV pre)).ps ++ [z] := by
   rw [hz, uo, show bV [(⟨(x1, xp), hx1, rD⟩ : lz n)] = [(x1, xp)] from rfl, xu]; rfl
  have Xa : (cM F (bV (pre ++ [⟨(x1, xp), hx1, rD⟩]))).ns = (cM F (bV pre)).ns ++ [F.nm x1] := by
   rw [uo, show bV [(⟨(x1, xp), hx1, rD⟩ : lz n)] = [(x1, xp)] from rfl, xu]; rfl
  have LV : Hid (∀ We P2 N2, jL (B + 5) w1 We P2 N2 ((cM F (bV pre)).ps ++ [z]) ((cM F (bV pre)).ns ++ [F.nm x1]) → KeepsFrom w6.heap.size W ((We.setCell ⟨B + 1, 0, none⟩ P2).setCell ⟨B + 1, 1, none⟩ N2) ∧ KN (fun b => b < B + 5 ∧ b ≠ B + 1 ∧ b ≠ B + 1 + 1) W ((We.setCell ⟨B + 1, 0, none⟩ P2).setCell ⟨B + 1, 1, none⟩ N2) ∧
   DG n (B + 5) (B + 1) (B + 1 + 1) A F (fun b => b < B + 5 ∧ b ≠ B + 1 ∧ b ≠ B + 1 + 1) w6 (pre ++ [⟨(x1, xp), hx1, rD⟩]) ((We.setCell ⟨B + 1, 0, none⟩ P2).setCell ⟨B + 1, 1, none⟩ N2)) := fun We P2 N2 hT => DG.next Oo hks fu fc hmp CG W5 hs1 Ud LR LS hb1 (by rw [W9, Xa]; exact hT)
  have hb0 : w1.heap[B + 1]? = some (Obj.cells #[.slice pp pre.length pc, .slice np pre.length nc] 39 (0, 0)) := (hb1 _ (by omega)).trans fc
  have iJ : Hid (∀ w', KS (fun b => b < B + 5) w1 w' → w'.cell? ⟨B + 1, 0, none⟩ = some (.slice pp pre.length pc) ∧ w'.cell? ⟨B + 1, 1, none⟩ = some (.slice np pre.length nc) ∧ w'.cell? ⟨B + 3, 0, none⟩ = some (.map (some (B + 1 + 1))) ∧ w'.cell? ⟨A x1, 0, none⟩ = some (.string (F.nm x1)) ∧ (Instr.lookup 224 (.map (some (B + 1 + 1))) (optr A xp) false).run Tryz.prog w' = .ok (.int .i64 z) w') := fun w' hS => by
   refine ⟨?_, ?_, ?_, ?_, ?_⟩
   ·simp [World.cell?, (hS (B + 1) (by omega)).trans hb0]
   ·simp [World.cell?, (hS (B + 1) (by omega)).trans hb0]
   ·rw [World.cell?_of_block (a := ⟨B + 3, 0, none⟩) ((hS (B + 3) (by show B + 3 < B + 5; omega)).trans (hb1 (B + 3) (by omega)))]; exact hmb
   ·rw [World.cell?_of_block (a := ⟨A x1, 0, none⟩) (hS (A x1) (by show A x1 < B + 5; omega))]; exact DD.name hx1
   ·have hpl : ∀ j, j < n → Plain w' (A j) := fun j hj => (DD.plain hj).of_block (hS _ (by have := aM.out j hj; show A j < B + 5; omega))
    have h := Oh (P := Tryz.prog) (w := w') Tryz.underlying224 Tryz.underlying137 Tryz.rz (z := .int .i64 0) Tryz.zeroValue3 (CG.of_block (hS _ (by show B + 1 + 1 < B + 5; omega))) (k := xp.map A)
     (by cases xp with | none => trivial | some k => exact hpl k (rD k rfl)) (fun zz hzz => by
      obtain ⟨y, hy, rfl⟩ := List.mem_map.1 hzz
      obtain ⟨y1, y2⟩ := y
      cases y1 with
      | none => trivial
      | some k => exact hpl k (Rx.keys _ hy k rfl))
    rw [zn W4.out (fun j hj => rD j hj) Rx.keys] at h
    have e1 : pk (xp.map A) = optr A xp := by cases xp <;> rfl
    have e2 : ((((cM F (bV (pre ++ [⟨(x1, xp), hx1, rD⟩]))).mp).lookup xp).map (Value.int .i64)).getD (.int .i64 0) = .int .i64 z := by rw [hz]; cases List.lookup xp (cM F (bV (pre ++ [⟨(x1, xp), hx1, rD⟩]))).mp <;> rfl
    rw [e1, e2] at h; exact h
  have J8 : Hid (∀ w', KS (fun b => b < B + 5) w1 w' → ∀ o, w'.frozen? ⟨B + 1, o, none⟩ = false) := fun w' hS o => by simp [World.frozen?, (hS (B + 1) (by omega)).trans hb0]
  have Bb : Hid (jL (B + 5) w1 w1.drew (.slice pp pre.length pc) (.slice np pre.length nc) (cM F (bV pre)).ps (cM F (bV pre)).ns) := oh.up (Up.drewN w1 1) (by rw [hs1]; have := fu.size; omega)
  have dD : Hid ((cM F (bV pre)).ps.length = pre.length ∧ (cM F (bV pre)).ns.length = pre.length) := ⟨hok.lp, hok.ln⟩
  have Ug : B + 5 ≤ w1.drew.heap.size := by show B + 5 ≤ w1.heap.size; rw [hs1]; have := fu.size; omega
  have HFW1 := aa DD
  clear hput oh uu J6 W5 hok Rx W9 Xa hb0 DD Uf hmp CG bD hks fu fc hkeys hmb hz hb1 hs1 Ud LR LS hlt hlo hinj
  generalize (cM F (bV pre)).ps = PS at *
  generalize (cM F (bV pre)).ns = NS at *
  generalize F.nm x1 = nm at *
  refine FK (by kernel_rfl) 15 (KS (fun b => b < B + 5) w1) (KS.refl _ _) (fun hS => ?_)
  simp only [List.size_toArray, List.length_cons, List.length_nil, Nat.reduceAdd, Array.replicate_succ, Array.replicate_zero, List.push_toArray, List.nil_append, List.cons_append]
  generalize w1.drew = Wd at *
  refine bh.take (i := 0) (v := ?Dr) rfl (by kernel_rfl) (fun _ _ _ h => h) (by rfl) (fun _ => rfl) (fun w hSw => ?pF) hS ?Ds
  case pF =>
   obtain ⟨q1, q2, q3, q4, q5⟩ := iJ.out w hSw
   go_simp
   try with_reducible rfl
  try simp only [Act.put, aj, aq, au]
  refine bh.take (i := 1) (v := ?Dt) rfl (by kernel_rfl) (fun _ _ _ h => h) (by rfl) (fun _ => rfl) (fun w hSw => ?pG) hS ?Du
  case pG =>
   obtain ⟨q1, q2, q3, q4, q5⟩ := iJ.out w hSw
   go_simp
   try with_reducible rfl
  try simp only [Act.put, aj, aq, au]
  refine bh.take (i := 2) (v := ?Dv) rfl (by kernel_rfl) (fun _ _ _ h => h) (by rfl) (fun _ => rfl) (fun w hSw => ?pH) hS ?Dw
  case pH =>
   obtain ⟨q1, q2, q3, q4, q5⟩ := iJ.out w hSw
   go_simp
   try with_reducible rfl
  try simp only [Act.put, aj, aq, au]
  refine bh.take (i := 3) (v := ?NU) rfl (by kernel_rfl) (fun _ _ _ h => h) (by rfl) (fun _ => rfl) (fun w hSw => ?xe) hS ?NV
  case xe =>
   obtain ⟨q1, q2, q3, q4, q5⟩ := iJ.out w hSw
   go_simp
   try with_reducible rfl
  try simp only [Act.put, aj, aq, au]
  refine bh.take (i := 4) (v := ?NW) rfl (by kernel_rfl) (fun _ _ _ h => h) (by rfl) (fun _ => rfl) (fun w hSw => ?xg) hS ?NX
  case xg =>
   obtain ⟨q1, q2, q3, q4, q5⟩ := iJ.out w hSw
   go_simp
   try with_reducible rfl
  try simp only [Act.put, aj, aq, au]
  refine bh.take (i := 7) (v := ?J3) rfl (by kernel_rfl) (fun _ _ _ h => h) (by rfl) (fun _ => rfl) (fun w hSw => ?uj) hS ?J4
  case uj =>
   obtain ⟨q1, q2, q3, q4, q5⟩ := iJ.out w hSw
   go_simp
   try with_reducible rfl
  try simp only [Act.put, aj, aq, au]
  refine bh.take (i := 8) (v := ?T8) rfl (by kernel_rfl) (fun _ _ _ h => h) (by rfl) (fun _ => rfl) (fun w hSw => ?A5) hS ?T9
  case A5 =>
   obtain ⟨q1, q2, q3, q4, q5⟩ := iJ.out w hSw
   go_simp
   try with_reducible rfl
  try simp only [Act.put, aj, aq, au]
  refine bh.take (i := 9) (v := ?Ua) rfl (by kernel_rfl) (fun _ _ _ h => h) (by rfl) (fun _ => rfl) (fun w hSw => ?A6) hS ?Ub
  case A6 =>
   obtain ⟨q1, q2, q3, q4, q5⟩ := iJ.out w hSw
   go_simp
   try with_reducible rfl
  try simp only [Act.put, aj, aq, au]
  refine bh.take (i := 10) (v := ?Ri) rfl (by kernel_rfl) (fun _ _ _ h => h) (by rfl) (fun _ => rfl) (fun w hSw => ?zY) hS ?Rj
  case zY =>
   obtain ⟨q1, q2, q3, q4, q5⟩ := iJ.out w hSw
   go_simp
   try with_reducible rfl
  try simp only [Act.put, aj, aq, au]
  refine bh.take (i := 11) (v := ?WB) rfl (by kernel_rfl) (fun _ _ _ h => h) (by rfl) (fun _ => rfl) (fun w hSw => ?FC) hS ?WC
  case FC =>
   obtain ⟨q1, q2, q3, q4, q5⟩ := iJ.out w hSw
   go_simp
   try with_reducible rfl
  try simp only [Act.put, aj, aq, au]
  refine bh.take (i := 12) (v := ?WD) rfl (by kernel_rfl) (fun _ _ _ h => h) (by rfl) (fun _ => rfl) (fun w hSw => ?FD) hS ?WE
  case FD =>
   obtain ⟨q1, q2, q3, q4, q5⟩ := iJ.out w hSw
   go_simp
   try with_reducible rfl
  try simp only [Act.put, aj, aq, au]
  refine bh.uU (i := 5) (i2 := 13) rfl rfl (by kernel_rfl) (fun K' hK => ?_) (fun K' hK => ?_)
  ·go_simp
   have FT : Hid (jL (B + 5) w1 (Wd.alloc (.cells #[.int .i64 z] 3)) _ _ _ _) := Bb.out.up (Up.alloc _ _) Ug
   have DK : B + 5 ≤ (Wd.alloc (.cells #[.int .i64 z] 3)).heap.size := Nat.le_trans Ug (Up.alloc _ _).size
   refine hK.out _ _ (fun _ => FT.out.low.block) (fun _ => ?_)
   try simp only [aj, aq, au]
   refine bh.uU (i := 6) (i2 := 13) rfl rfl (by kernel_rfl) (fun K' hK => ?_) (fun K' hK => ?_)
   ·refine kW (by rfl) _ _ _ (by rfl) (B + 5) 3 _ 8 Tryz.underlying26 Tryz.fU (by rfl) (by decide) (by rfl) FT.out.bg (.int .i64 z) Wd.heap.size (by rfl) (bf Wd #[.int .i64 z] 3 0) (by rfl) (by rw [List.length_map, dD.out.1]; omega) DK ?_
    intro g1 DL fQ kz gq hrg1 _
    have xx : Hid (jL (B + 5) w1 fQ _ _ _ _) := FT.out.oC DK kz gq (hrg1.imp id (fun e => Nat.le_of_eq e.symm))
    have zo : B + 5 ≤ fQ.heap.size := Nat.le_trans DK gq.size
    refine hK.out _ _ (fun _ => xx.out.low.block) (fun _ => ?_)
    try simp only [Act.put, aj, aq, au]
    refine bh.free (i := 15) (v := ?gv15a) rfl (by kernel_rfl) (fun _ _ _ h => h) (by rfl) (fun _ => rfl) (fun w => ?LW) (fun _ => xx.out.low.block) ?gr15a
    case LW =>
     go_simp
     try with_reducible rfl
    try simp only [Act.put, aj, aq, au]
    refine bh.step (i := 13) rfl (by kernel_rfl) (fun K' hK => ?_)
    go_simp
    have mO : Hid (jL (B + 5) w1 (fQ.alloc (.cells #[.string nm] 9)) _ _ _ _) := xx.out.up (Up.alloc _ _) zo
    have xy : B + 5 ≤ (fQ.alloc (.cells #[.string nm] 9)).heap.size := Nat.le_trans zo (Up.alloc _ _).size
    refine hK.out _ _ (fun _ => mO.out.low.block) (fun _ => ?_)
    try simp only [aj, aq, au]
    refine bh.step (i := 14) rfl (by kernel_rfl) (fun K' hK => ?_)
    refine kW (by rfl) _ _ _ (by rfl) (B + 5) 9 _ 16 Tryz.underlying22 Tryz.CE (by rfl) (by decide) (by rfl) mO.out.bA (.string nm) fQ.heap.size (by rfl) (bf fQ #[.string nm] 9 0) (by rfl) (by rw [List.length_map, dD.out.2]; omega) xy ?_
    intro g2 zq dI jD iG hrg2 _
    have mP : Hid (jL (B + 5) w1 dI _ _ _ _) := mO.out.nA xy jD iG (hrg2.imp id (fun e => Nat.le_of_eq e.symm))
    have hSf : B + 5 ≤ dI.heap.size := Nat.le_trans xy iG.size
    refine hK.out _ _ (fun _ => mP.out.low.block) (fun _ => ?_)
    try simp only [Act.put, aj, aq, au]
    have sM : dI.cell? ⟨B + 1, 0, none⟩ = some (.slice pp pre.length pc) := (iJ.out dI mP.out.low.block).1
    have di : dI.cell? ⟨B + 1, 1, none⟩ = some (.slice np pre.length nc) := (iJ.out dI mP.out.low.block).2.1
    have zu : dI.frozen? ⟨B + 1, 0, none⟩ = false := J8.out dI mP.out.low.block 0
    have tJ : dI.frozen? ⟨B + 1, 1, none⟩ = false := J8.out dI mP.out.low.block 1
    have fe := aa (LV.out dI _ _ mP.out)
    refine bh.step (i := 16) rfl (by kernel_rfl) (fun K' hK => ?_)
    go_simp
    refine hK.out _ _ (aP (by kernel_rfl)) (fun _ => ?_)
    try simp only [aj, aq, au]
    refine bh.free (i := 17) (v := ?gv17a) rfl (by kernel_rfl) (fun _ _ _ h => h) (by rfl) (fun _ => rfl) (fun w => ?gy17a) (aP (by kernel_rfl)) ?gr17a
    case gy17a =>
     go_simp
     try with_reducible rfl
    try simp only [Act.put, aj, aq, au]
    refine bh.step (i := 18) rfl (by kernel_rfl) (fun K' hK => ?_)
    go_simp
    refine hK.out _ _ (aP (by kernel_rfl)) (fun _ => ?_)
    refine bh.done (by kernel_rfl) ?_
    gi_wp2
    have cH := fe.out
    simp only [List.length_map] at cH
    exact cH
   ·go_simp
    have xx : Hid (jL (B + 5) w1 ((Wd.alloc (.cells #[.int .i64 z] 3)).alloc (.cells #[.string nm] 9)) _ _ _ _) := FT.out.up (Up.alloc _ _) DK
    have zo : B + 5 ≤ ((Wd.alloc (.cells #[.int .i64 z] 3)).alloc (.cells #[.string nm] 9)).heap.size := Nat.le_trans DK (Up.alloc _ _).size
    refine hK.out _ _ (fun _ => xx.out.low.block) (fun _ => ?_)
    try simp only [aj, aq, au]
    have og := bf (Wd.alloc (.cells #[.int .i64 z] 3)) #[.string nm] 9 0
    have mM := (Up.alloc (Wd.alloc (.cells #[.int .i64 z] 3)) (.cells #[.string nm] 9)).cell (bf Wd #[.int .i64 z] 3 0)
    rw [World.size_alloc] at og
    refine bh.step (i := 6) rfl (by kernel_rfl) (fun K' hK => ?_)
    refine kW (by rfl) _ _ _ (by rfl) (B + 5) 3 _ 8 Tryz.underlying26 Tryz.fU (by rfl) (by decide) (by rfl) xx.out.bg (.int .i64 z) Wd.heap.size (by rfl) mM (by rfl) (by rw [List.length_map, dD.out.1]; omega) zo ?_
    intro g1 DL fQ kz gq hrg1 _
    have mO : Hid (jL (B + 5) w1 fQ _ _ _ _) := xx.out.oC zo kz gq (hrg1.imp id (fun e => Nat.le_of_eq e.symm))
    have xy : B + 5 ≤ fQ.heap.size := Nat.le_trans zo gq.size
    have rE : fQ.cell? ⟨Wd.heap.size + 1, 0, none⟩ = some (.string nm) := by
     rw [gq.cell_far ⟨Wd.heap.size + 1, 0, none⟩ (by simp) (fun e => absurd (ax Bb.out.bg e.symm).2 (by show ¬ (Wd.heap.size + 1 < Wd.heap.size); omega))]; exact og
    refine hK.out _ _ (fun _ => mO.out.low.block) (fun _ => ?_)
    try simp only [Act.put, aj, aq, au]
    refine bh.free (i := 15) (v := ?gv15b) rfl (by kernel_rfl) (fun _ _ _ h => h) (by rfl) (fun _ => rfl) (fun w => ?LX) (fun _ => mO.out.low.block) ?gr15b
    case LX =>
     go_simp
     try with_reducible rfl
    try simp only [Act.put, aj, aq, au]
    refine bh.step (i := 14) rfl (by kernel_rfl) (fun K' hK => ?_)
    refine kW (by rfl) _ _ _ (by rfl) (B + 5) 9 _ 16 Tryz.underlying22 Tryz.CE (by rfl) (by decide) (by rfl) mO.out.bA (.string nm) (Wd.heap.size + 1) (by rfl) rE (by rfl) (by rw [List.length_map, dD.out.2]; omega) xy ?_
    intro g2 zq dI jD iG hrg2 _
    have mP : Hid (jL (B + 5) w1 dI _ _ _ _) := mO.out.nA xy jD iG (hrg2.imp id (fun e => Nat.le_of_eq e.symm))
    have hSf : B + 5 ≤ dI.heap.size := Nat.le_trans xy iG.size
    refine hK.out _ _ (fun _ => mP.out.low.block) (fun _ => ?_)
    try simp only [Act.put, aj, aq, au]
    have sM : dI.cell? ⟨B + 1, 0, none⟩ = some (.slice pp pre.length pc) := (iJ.out dI mP.out.low.block).1
    have di : dI.cell? ⟨B + 1, 1, none⟩ = some (.slice np pre.length nc) := (iJ.out dI mP.out.low.block).2.1
    have zu : dI.frozen? ⟨B + 1, 0, none⟩ = false := J8.out dI mP.out.low.block 0
    have tJ : dI.frozen? ⟨B + 1, 1, none⟩ = false := J8.out dI mP.out.low.block 1
    have fe := aa (LV.out dI _ _ mP.out)
    refine bh.step (i := 16) rfl (by kernel_rfl) (fun K' hK => ?_)
    go_simp
    refine hK.out _ _ (aP (by kernel_rfl)) (fun _ => ?_)
    try simp only [aj, aq, au]
    refine bh.free (i := 17) (v := ?gv17b) rfl (by kernel_rfl) (fun _ _ _ h => h) (by rfl) (fun _ => rfl) (fun w => ?gy17b) (aP (by kernel_rfl)) ?gr17b
    case gy17b =>
     go_simp
     try with_reducible rfl
    try simp only [Act.put, aj, aq, au]
    refine bh.step (i := 18) rfl (by kernel_rfl) (fun K' hK => ?_)
    go_simp
    refine hK.out _ _ (aP (by kernel_rfl)) (fun _ => ?_)
    refine bh.done (by kernel_rfl) ?_
    gi_wp2
    have cH := fe.out
    simp only [List.length_map] at cH
    exact cH
  ·go_simp
   have FT : Hid (jL (B + 5) w1 (Wd.alloc (.cells #[.string nm] 9)) _ _ _ _) := Bb.out.up (Up.alloc _ _) Ug
   have DK : B + 5 ≤ (Wd.alloc (.cells #[.string nm] 9)).heap.size := Nat.le_trans Ug (Up.alloc _ _).size
   refine hK.out _ _ (fun _ => FT.out.low.block) (fun _ => ?_)
   try simp only [aj, aq, au]
   refine bh.step (i := 5) rfl (by kernel_rfl) (fun K' hK => ?_)
   go_simp
   have xx : Hid (jL (B + 5) w1 ((Wd.alloc (.cells #[.string nm] 9)).alloc (.cells #[.int .i64 z] 3)) _ _ _ _) := FT.out.up (Up.alloc _ _) DK
   have zo : B + 5 ≤ ((Wd.alloc (.cells #[.string nm] 9)).alloc (.cells #[.int .i64 z] 3)).heap.size := Nat.le_trans DK (Up.alloc _ _).size
   refine hK.out _ _ (fun _ => xx.out.low.block) (fun _ => ?_)
   try simp only [aj, aq, au]
   have mM := bf (Wd.alloc (.cells #[.string nm] 9)) #[.int .i64 z] 3 0
   have og := (Up.alloc (Wd.alloc (.cells #[.string nm] 9)) (.cells #[.int .i64 z] 3)).cell (bf Wd #[.string nm] 9 0)
   rw [World.size_alloc] at mM
   refine bh.step (i := 6) rfl (by kernel_rfl) (fun K' hK => ?_)
   refine kW (by rfl) _ _ _ (by rfl) (B + 5) 3 _ 8 Tryz.underlying26 Tryz.fU (by rfl) (by decide) (by rfl) xx.out.bg (.int .i64 z) (Wd.heap.size + 1) (by rfl) mM (by rfl) (by rw [List.length_map, dD.out.1]; omega) zo ?_
   intro g1 DL fQ kz gq hrg1 _
   have mO : Hid (jL (B + 5) w1 fQ _ _ _ _) := xx.out.oC zo kz gq (hrg1.imp id (fun e => Nat.le_of_eq e.symm))
   have xy : B + 5 ≤ fQ.heap.size := Nat.le_trans zo gq.size
   have rE : fQ.cell? ⟨Wd.heap.size, 0, none⟩ = some (.string nm) := by
    rw [gq.cell_far ⟨Wd.heap.size, 0, none⟩ (by simp; omega) (fun e => absurd (ax Bb.out.bg e.symm).2 (by show ¬ (Wd.heap.size < Wd.heap.size); omega))]; exact og
   refine hK.out _ _ (fun _ => mO.out.low.block) (fun _ => ?_)
   try simp only [Act.put, aj, aq, au]
   refine bh.free (i := 15) (v := ?gv15c) rfl (by kernel_rfl) (fun _ _ _ h => h) (by rfl) (fun _ => rfl) (fun w => ?LY) (fun _ => mO.out.low.block) ?gr15c
   case LY =>
    go_simp
    try with_reducible rfl
   try simp only [Act.put, aj, aq, au]
   refine bh.step (i := 14) rfl (by kernel_rfl) (fun K' hK => ?_)
   refine kW (by rfl) _ _ _ (by rfl) (B + 5) 9 _ 16 Tryz.underlying22 Tryz.CE (by rfl) (by decide) (by rfl) mO.out.bA (.string nm) Wd.heap.size (by rfl) rE (by rfl) (by rw [List.length_map, dD.out.2]; omega) xy ?_
   intro g2 zq dI jD iG hrg2 _
   have mP : Hid (jL (B + 5) w1 dI _ _ _ _) := mO.out.nA xy jD iG (hrg2.imp id (fun e => Nat.le_of_eq e.symm))
   have hSf : B + 5 ≤ dI.heap.size := Nat.le_trans xy iG.size
   refine hK.out _ _ (fun _ => mP.out.low.block) (fun _ => ?_)
   try simp only [Act.put, aj, aq, au]
   have sM : dI.cell? ⟨B + 1, 0, none⟩ = some (.slice pp pre.length pc) := (iJ.out dI mP.out.low.block).1
   have di : dI.cell? ⟨B + 1, 1, none⟩ = some (.slice np pre.length nc) := (iJ.out dI mP.out.low.block).2.1
   have zu : dI.frozen? ⟨B + 1, 0, none⟩ = false := J8.out dI mP.out.low.block 0
   have tJ : dI.frozen? ⟨B + 1, 1, none⟩ = false := J8.out dI mP.out.low.block 1
   have fe := aa (LV.out dI _ _ mP.out)
   refine bh.step (i := 16) rfl (by kernel_rfl) (fun K' hK => ?_)
   go_simp
   refine hK.out _ _ (aP (by kernel_rfl)) (fun _ => ?_)
   try simp only [aj, aq, au]
   refine bh.free (i := 17) (v := ?gv17c) rfl (by kernel_rfl) (fun _ _ _ h => h) (by rfl) (fun _ => rfl) (fun w => ?gy17c) (aP (by kernel_rfl)) ?gr17c
   case gy17c =>
    go_simp
    try with_reducible rfl
   try simp only [Act.put, aj, aq, au]
   refine bh.step (i := 18) rfl (by kernel_rfl) (fun K' hK => ?_)
   go_simp
   refine hK.out _ _ (aP (by kernel_rfl)) (fun _ => ?_)
   refine bh.done (by kernel_rfl) ?_
   gi_wp2
   have cH := fe.out
   simp only [List.length_map] at cH
   exact cH
 ·rintro D xs W hD hS ⟨hks, fu, Pv, Nv, fc, uu, hmp, J6⟩ hK
  have hb0 : W.cell? ⟨B + 1, 0, none⟩ = some Pv := by simp [World.cell?, fc]
  have hb1 : W.cell? ⟨B + 1, 1, none⟩ = some Nv := by simp [World.cell?, fc]
  have Ot : W.heap[B]? = some (Obj.cells #[.slice none 0 0, .slice none 0 0] 39 (0, 0)) := (hks B ⟨by omega, by omega, by omega⟩).trans Oq
  have hok : ql n xs.length (cM F (bV xs)) := LQ xs
  obtain ⟨pp, pc, rfl, _⟩ := uu.bg.form (n := xs.length) (by rw [List.length_map]; exact hok.lp)
  obtain ⟨np, nc, rfl, _⟩ := uu.bA.form (n := xs.length) (by rw [List.length_map]; exact hok.ln)
  have rF : W.cell? ⟨B, 0, none⟩ = some (.slice none 0 0) := by simp [World.cell?, Ot]
  have hr1 : W.cell? ⟨B, 1, none⟩ = some (.slice none 0 0) := by simp [World.cell?, Ot]
  have uv : W.frozen? ⟨B, 0, none⟩ = false := by simp [World.frozen?, Ot]
  have lB : W.frozen? ⟨B, 1, none⟩ = false := by simp [World.frozen?, Ot]
  gi_wp2_with fail
  have Xb : D ≠ B := by omega
  have hK2 : ((W.setCell ⟨B, 0, none⟩ (.slice pp xs.length pc)).setCell ⟨B, 1, none⟩ (.slice np xs.length nc)).heap[D]? = some (.deferred (some [])) := by
   rw [blk_setCell_other _ _ _ _ Xb, blk_setCell_other _ _ _ _ Xb]; exact hK
  refine ⟨by simp, .inl ⟨_, _, rfl, run_takeDeferred hK2, ?_⟩⟩
  have hheap : ((W.setCell ⟨B, 0, none⟩ (.slice pp xs.length pc)).setCell ⟨B, 1, none⟩ (.slice np xs.length nc)).heap[B]? = some (Obj.cells #[.slice pp xs.length pc, .slice np xs.length nc] 39 (0, 0)) := by
   simp [World.setCell, Array.getElem?_modify, Ot]
  have hq : ∀ b, b ≠ D → (((W.setCell ⟨B, 0, none⟩ (.slice pp xs.length pc)).setCell ⟨B, 1, none⟩ (.slice np xs.length nc)).putObj D (.deferred none)).heap[b]? = ((W.setCell ⟨B, 0, none⟩ (.slice pp xs.length pc)).setCell ⟨B, 1, none⟩ (.slice np xs.length nc)).heap[b]? := fun b hb => World.putObj_heap_other hb
  have Ou := (hq B (Ne.symm Xb)).trans hheap
  have xA : ∀ b, b ≠ B → ((W.setCell ⟨B, 0, none⟩ (.slice pp xs.length pc)).setCell ⟨B, 1, none⟩ (.slice np xs.length nc)).heap[b]? = W.heap[b]? := fun b hb => by rw [blk_setCell_other _ _ _ _ hb, blk_setCell_other _ _ _ _ hb]
  have hsz : (((W.setCell ⟨B, 0, none⟩ (.slice pp xs.length pc)).setCell ⟨B, 1, none⟩ (.slice np xs.length nc)).putObj D (.deferred none)).heap.size = W.heap.size := by simp [World.size_setCell]
  have hos : (((W.setCell ⟨B, 0, none⟩ (.slice pp xs.length pc)).setCell ⟨B, 1, none⟩ (.slice np xs.length nc)).putObj D (.deferred none)).os = W.os ∧ (((W.setCell ⟨B, 0, none⟩ (.slice pp xs.length pc)).setCell ⟨B, 1, none⟩ (.slice np xs.length nc)).putObj D (.deferred none)).tape = W.tape ∧ (((W.setCell ⟨B, 0, none⟩ (.slice pp xs.length pc)).setCell ⟨B, 1, none⟩ (.slice np xs.length nc)).putObj D (.deferred none)).output = W.output := ⟨rfl, rfl, rfl⟩
  generalize ((W.setCell ⟨B, 0, none⟩ (.slice pp xs.length pc)).setCell ⟨B, 1, none⟩ (.slice np xs.length nc)).putObj D (.deferred none) = We at *
  have hc0 : We.cell? ⟨B, 0, none⟩ = some (.slice pp xs.length pc) := by simp [World.cell?, Ou]
  have hc1 : We.cell? ⟨B, 1, none⟩ = some (.slice np xs.length nc) := by simp [World.cell?, Ou]
  have hown : ∀ {e : TypeId} {v : Value} {vs : List Value}, ah (B + 5) e W v vs → ah (B + 5) e We v vs := fun ho => ho.same fun b hb => by
   have h1 := (ax ho hb).1
   obtain ⟨c, hc⟩ := ho.typed hb
   have hbD : b ≠ D := fun e => by subst e; rw [hK] at hc; cases hc
   rw [hq b hbD, xA b (by omega)]
  refine ⟨.agg #[.slice pp xs.length pc, .slice np xs.length nc], by simp [results, Tryz.results175, go_sem, hc0, hc1], ?_, _, rfl, .slice pp xs.length pc, .slice np xs.length nc, rfl, ?_, ?_⟩
  ·have hX := HX.out
   have hBw := HB.out
   refine ⟨hos.1.trans (fu.os.trans hX.os), hos.2.1.trans (fu.tape.trans hX.tape), hos.2.2.trans (fu.output.trans hX.output), ?_, fun b hb => ?_⟩
   ·rw [hsz]; have h1 := hX.size; have h2 := fu.size; omega
   ·rw [hBw] at hb
    rw [hq b (by omega), xA b (by omega), fu.block b (by omega)]
    exact Below.block hX b (by rw [hBw]; exact hb)
  ·show af (fun b => w.heap.size ≤ b) We _ (cM F (dQ F rk i none)).ps
   rw [← hS, HB.out]
   exact (hown uu.bg).ints.sub fun b (hb : B + 5 ≤ b) _ => (by omega : B ≤ b)
  ·show ay (fun b => w.heap.size ≤ b) We _ (cM F (dQ F rk i none)).ns
   rw [← hS, HB.out]
   exact (hown uu.bA).strs.sub fun b (hb : B + 5 ≤ b) _ => (by omega : B ≤ b)
 ·rintro D c pre W _ _ h _
  exact h.elim
end Go.Proofs.YtpnmblnahjjmhaaGreat
