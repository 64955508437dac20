/- The contract of phylotree.tree. -/
import Derived.Test.YtpnmblnahjjmhaaGreatQ1
import Derived.Test.YtpnmblnahjjmhaaGreatQ9
import Derived.RangeFuncWrites
namespace Go.Proofs.YtpnmblnahjjmhaaGreat
set_option maxRecDepth 100000
open Go.RowKit Go.Shelf Go.Deep
attribute [local go_sem] Oper.semAt_some
theorem Tryz.CO : (Tryz.prog.info? 9).map (fun i => (i.zero, i.size, i.bytes)) = some (some (.string ⟨#[]⟩), 1, 16) := by af
def k9 (l : List (Option Nat × Int)) (k : Option Nat) (v : Int) : List (Option Nat × Int) := if (l.lookup k).isNone then l ++ [(k, v)] else l.map fun x => if x.1 = k then (k, v) else x
structure wJ where
 mp : List (Option Nat × Int)
 ps : List Int
 ns : List ByteArray
def oo (F : bA) (s : wJ) (x : Nat × Option Nat) : wJ :=
 ⟨k9 s.mp (some x.1) s.ps.length, s.ps ++ [((k9 s.mp (some x.1) s.ps.length).lookup x.2).getD 0], s.ns ++ [F.nm x.1]⟩
def CP : wJ := ⟨[(none, -1)], [], []⟩
def dB (F : bA) (l : List (Nat × Option Nat)) : wJ := l.foldl (oo F) CP
theorem xM (F : bA) (l : List (Nat × Option Nat)) (x : Nat × Option Nat) : dB F (l ++ [x]) = oo F (dB F l) x := by simp [dB]
def gp (F : bA) (rk : Nat → Nat) (i : Nat) : aJ := ⟨(dB F (eO F rk i none)).ps, (dB F (eO F rk i none)).ns⟩
def mI (A : Nat → Nat) (l : List (Option Nat × Int)) : List (Option Nat × Value) := l.map fun x => (x.1.map A, .int .i64 x.2)
def uN (n : Nat) (l : List (Option Nat × Int)) : Prop := ∀ x ∈ l, ∀ k, x.1 = some k → k < n
theorem map_inj {A : Nat → Nat} {n : Nat} (hinj : ∀ i j, i < n → j < n → A i = A j → i = j) {x y : Option Nat} (hx : ∀ k, x = some k → k < n) (hy : ∀ k, y = some k → k < n) (h : x.map A = y.map A) : x = y := by
 cases x with
 | none => cases y with
  | none => rfl
  | some b => cases h
 | some a => cases y with
  | none => cases h
  | some b =>
   simp only [Option.map_some, Option.some.injEq] at h
   rw [hinj a b (hx a rfl) (hy b rfl) h]
theorem zI {A : Nat → Nat} {n : Nat} (hinj : ∀ i j, i < n → j < n → A i = A j → i = j) {k : Option Nat} (hk : ∀ j, k = some j → j < n) : ∀ {l : List (Option Nat × Int)}, uN n l → (mI A l).lookup (k.map A) = (l.lookup k).map (Value.int .i64) := by
 intro l
 induction l with
 | nil => intro _; rfl
 | cons x l ih =>
  intro hl
  obtain ⟨x1, x2⟩ := x
  have mw : uN n l := fun z hz => hl z (by simp [hz])
  show List.lookup (k.map A) ((x1.map A, Value.int .i64 x2) :: mI A l) = _
  rw [List.lookup_cons, List.lookup_cons]
  by_cases h : k = x1
  ·subst h; simp
  ·have h1 : (k == x1) = false := by simpa using h
   have h2 : (k.map A == x1.map A) = false := by
    simp only [beq_eq_false_iff_ne, ne_eq]
    exact fun e => h (map_inj hinj hk (fun j hj => hl (x1, x2) (by simp) j hj) e)
   rw [h1, h2]; exact ih mw
theorem Rz {A : Nat → Nat} {n : Nat} (hinj : ∀ i j, i < n → j < n → A i = A j → i = j) {k : Option Nat} (hk : ∀ j, k = some j → j < n) {l : List (Option Nat × Int)} (hl : uN n l) (v : Int) : uf (mI A l) (k.map A) (.int .i64 v) = mI A (k9 l k v) := by
 unfold uf k9
 rw [zI hinj hk hl]
 cases h : l.lookup k with
 | none => simp [mI]
 | some y =>
  simp only [Option.map_some, Option.isNone_some, Bool.false_eq_true, if_false]
  unfold mI
  rw [List.map_map, List.map_map]
  refine List.map_congr_left fun x hx => ?_
  show (if x.1.map A = k.map A then (k.map A, Value.int .i64 v) else (x.1.map A, Value.int .i64 x.2)) = ((if x.1 = k then (k, v) else x).1.map A, Value.int .i64 (if x.1 = k then (k, v) else x).2)
  by_cases e : x.1 = k
  ·rw [if_pos (by rw [e]), if_pos e]
  ·rw [if_neg (fun e2 => e (map_inj hinj (fun j hj => hl x hx j hj) hk e2)), if_neg e]
theorem Oo {n : Nat} {l : List (Option Nat × Int)} (hl : uN n l) {k : Option Nat} (hk : ∀ j, k = some j → j < n) (v : Int) : uN n (k9 l k v) := by
 intro x hx
 unfold k9 at hx
 split at hx
 ·rcases List.mem_append.1 hx with h | h
  ·exact hl x h
  ·have : x = (k, v) := by simpa using h
   subst this; exact hk
 ·obtain ⟨y, hy, e⟩ := List.mem_map.1 hx
  split at e
  ·subst e; exact hk
  ·subst e; exact hl y hy
structure qT (n m : Nat) (s : wJ) : Prop where
 keys : uN n s.mp
 lp : s.ps.length = m
 ln : s.ns.length = m
theorem qT.step {n m : Nat} {s : wJ} {F : bA} (h : qT n m s) (x : mA n) : qT n (m + 1) (oo F s x.1) :=
 ⟨Oo h.keys (fun j hj => by cases hj; exact x.2.1) _, by show (s.ps ++ [_]).length = _; rw [List.length_append, h.lp]; rfl, by show (s.ns ++ [_]).length = _; rw [List.length_append, h.ln]; rfl⟩
theorem LS {n : Nat} {F : bA} : ∀ (l : List (mA n)) (m : Nat) (s : wJ), qT n m s → qT n (m + l.length) ((cN l).foldl (oo F) s) := by
 intro l
 induction l with
 | nil => intro m s h; exact h
 | cons x l ih =>
  intro m s h
  have h2 := ih (m + 1) _ (h.step (F := F) x)
  rw [show m + (x :: l).length = m + 1 + l.length by simp; omega]
  exact h2
theorem LU {n : Nat} {F : bA} (l : List (mA n)) : qT n l.length (dB F (cN l)) := by
 have h := LS (F := F) l 0 CP ⟨fun x hx k hk => (by
  have : x = (none, -1) := by simpa [CP] using hx
  subst this; cases hk), rfl, rfl⟩
 rw [Nat.zero_add] at h; exact h
def Oq (w : World) (t : aJ) (e : Ending) (w' : World) : Prop := Up w w' ∧ ∃ v, e = .returned v ∧ aO (fun b => w.heap.size ≤ b) w' v t
structure kD (B0 : Nat) (w1 W : World) (Pv Nv : Value) (ps : List Int) (ns : List ByteArray) : Prop where
 bJ : ay B0 3 W Pv (ps.map (Value.int .i64))
 bW : ay B0 9 W Nv (ns.map Value.string)
 apart : ∀ b, Pv.ownBlock = some b → Nv.ownBlock ≠ some b
 low : Below B0 w1 W
 fns : ∀ (b : Nat) (c : Array Value) (z : Nat × Nat), w1.heap[b]? = some (Obj.cells c 270 z) → W.heap[b]? = w1.heap[b]?
 oa : KeepsFrom B0 w1 W
section
variable {B0 : Nat} {w1 W W' : World} {Pv Nv : Value} {ps : List Int} {ns : List ByteArray}
theorem ay.typed {base : Nat} {e : TypeId} {w : World} {v : Value} {vs : List Value} (h : ay base e w v vs) {b : Nat} (hb : v.ownBlock = some b) : ∃ c, w.heap[b]? = some (Obj.cells c e (0, 0)) := by
 obtain ⟨_, ⟨rfl, _⟩ | ⟨g, cap, cur, rfl, _, hc, _⟩⟩ := h
 ·cases hb
 ·injection hb with hb; subst hb; exact ⟨cur, hc⟩
theorem kD.up (h : kD B0 w1 W Pv Nv ps ns) (hu : Up W W') (hB : B0 ≤ W.heap.size) : kD B0 w1 W' Pv Nv ps ns :=
 ⟨h.bJ.same fun b hb => Below.block hu b (aD h.bJ hb).2, h.bW.same fun b hb => Below.block hu b (aD h.bW hb).2, h.apart, Below.trans h.low (Below.mono hu hB), fun b c z hb => by
  have h1 := h.fns b c z hb
  rw [← h1]
  exact Below.block hu b (by rw [hb] at h1; exact (Array.getElem?_eq_some_iff.1 h1).1), h.oa.trans ⟨hu.size, fun k o _ hk _ => (Below.block hu k (Array.getElem?_eq_some_iff.1 hk).1).trans hk⟩⟩
theorem kD.pI (h : kD B0 w1 W Pv Nv ps ns) (hB : B0 ≤ W.heap.size) {g cap k : Nat} {u : Int} (ho : ay B0 3 W' (.slice (some ⟨g, 0, none⟩) k cap) (ps.map (Value.int .i64) ++ [.int .i64 u])) (hg : W.grownBy W' Pv.ownBlock) (fC : Pv.ownBlock = some g ∨ W.heap.size ≤ g) :
  kD B0 w1 W' (.slice (some ⟨g, 0, none⟩) k cap) Nv (ps ++ [u]) ns := by
 refine ⟨by rw [List.map_append]; exact ho, h.bW.same fun b hb => hg.block b (aD h.bW hb).2 (fun e => h.apart b e.symm hb), fun b hb bK => ?_, Below.trans h.low (h.bJ.fK hg hB), fun b c z hb => ?_, h.oa.trans ⟨hg.size, fun k o _ hk hc => (hg.block k (Array.getElem?_eq_some_iff.1 hk).1 (fun e => ?_)).trans hk⟩⟩
 ·injection hb with hb
  have hb : g = b := hb
  subst hb
  rcases fC with h1 | h1
  ·exact h.apart g h1 bK
  ·have := (aD h.bW bK).2; omega
 ·have h1 := h.fns b c z hb
  rw [← h1]
  refine hg.block b (by rw [hb] at h1; exact (Array.getElem?_eq_some_iff.1 h1).1) (fun e => ?_)
  obtain ⟨c2, h2⟩ := h.bJ.typed e.symm
  rw [h1, hb] at h2
  injection h2 with h2
  injection h2 with _ h2 _
  cases h2
 ·obtain ⟨c2, h2⟩ := h.bJ.typed e.symm
  rw [h2] at hk; injection hk with hk; subst hk; cases hc
theorem kD.ou (h : kD B0 w1 W Pv Nv ps ns) (hB : B0 ≤ W.heap.size) {g cap k : Nat} {u : ByteArray} (ho : ay B0 9 W' (.slice (some ⟨g, 0, none⟩) k cap) (ns.map Value.string ++ [.string u])) (hg : W.grownBy W' Nv.ownBlock) (fC : Nv.ownBlock = some g ∨ W.heap.size ≤ g) :
  kD B0 w1 W' Pv (.slice (some ⟨g, 0, none⟩) k cap) ps (ns ++ [u]) := by
 refine ⟨h.bJ.same fun b hb => hg.block b (aD h.bJ hb).2 (fun e => h.apart b hb e.symm), by rw [List.map_append]; exact ho, fun b hb bK => ?_, Below.trans h.low (h.bW.fK hg hB), fun b c z hb => ?_, h.oa.trans ⟨hg.size, fun k o _ hk hc => (hg.block k (Array.getElem?_eq_some_iff.1 hk).1 (fun e => ?_)).trans hk⟩⟩
 ·injection bK with bK
  have bK : g = b := bK
  subst bK
  rcases fC with h1 | h1
  ·exact h.apart g hb h1
  ·have := (aD h.bJ hb).2; omega
 ·have h1 := h.fns b c z hb
  rw [← h1]
  refine hg.block b (by rw [hb] at h1; exact (Array.getElem?_eq_some_iff.1 h1).1) (fun e => ?_)
  obtain ⟨c2, h2⟩ := h.bW.typed e.symm
  rw [h1, hb] at h2
  injection h2 with h2
  injection h2 with _ h2 _
  cases h2
 ·obtain ⟨c2, h2⟩ := h.bW.typed e.symm
  rw [h2] at hk; injection hk with hk; subst hk; cases hc
end
def DP (n B0 Bt m : Nat) (A : Nat → Nat) (F : bA) (T : Nat → Prop) (w6 : World) (pre : List (mA n)) (W : World) : Prop :=
 KS T w6 W ∧ Below (Bt) w6 W ∧ ∃ Pv Nv, W.heap[Bt]? = some (Obj.cells #[Pv, Nv] 39 (0, 0)) ∧ kD B0 W W Pv Nv (dB F (cN pre)).ps (dB F (cN pre)).ns ∧ jK W m (mI A (dB F (cN pre)).mp) ∧ vA (mI A (dB F (cN pre)).mp)
theorem DP.own {n B : Nat} {A : Nat → Nat} {F : bA} {w6 : World} (hz : w6.heap.size = B + 5) : OwnFrom w6.heap.size (DP n (B + 5) (B + 1) (B + 1 + 1) A F (fun b => b < B + 5 ∧ b ≠ B + 1 ∧ b ≠ B + 1 + 1) w6) := by
 intro s X Y row hs hg hr
 obtain ⟨hk, hb, Pv, Nv, fQ, hT, hm, hu⟩ := hs
 have hsz : B + 5 ≤ X.heap.size := by have := hb.size; omega
 have nt : ∀ b, b < B + 5 → Y.heap[b]? = X.heap[b]? := fun b bK => hg.block b (by omega) (fun e => by obtain ⟨h1, _⟩ := hr b e.symm; omega)
 have hcell : ∀ (b : Nat) (c : Array Value) (e : TypeId) (z : Nat × Nat), X.heap[b]? = some (Obj.cells c e z) → Y.heap[b]? = X.heap[b]? := fun b c e z hc => hg.block b (Array.getElem?_eq_some_iff.1 hc).1 (fun e2 => by
  obtain ⟨_, o, h1, h2⟩ := hr b e2.symm
  rw [hc] at h1; injection h1 with h1; subst h1; cases h2)
 refine ⟨fun b bK => (nt b bK.1).trans (hk b bK), ⟨hg.os.trans hb.os, hg.tape.trans hb.tape, hg.output.trans hb.output, Nat.le_trans hb.size hg.size, fun b bK => (nt b (by omega)).trans (hb.block b bK)⟩, Pv, Nv, (nt _ (by omega)).trans fQ, ?_, hm.of_block (nt _ (by omega)), hu⟩
 refine ⟨hT.bJ.same fun b bK => ?_, hT.bW.same fun b bK => ?_, hT.apart, Below.refl _ _, fun _ _ _ _ => rfl, KeepsFrom.refl _ _⟩
 ·obtain ⟨c, hc⟩ := hT.bJ.typed bK; exact hcell _ _ _ _ hc
 ·obtain ⟨c, hc⟩ := hT.bW.typed bK; exact hcell _ _ _ _ hc
theorem DP.next {n B : Nat} {A : Nat → Nat} {F : bA} {w6 W w1 We : World} (hz : w6.heap.size = B + 5) {pre : List (mA n)} {x : mA n} (hks : KS (fun b => b < B + 5 ∧ b ≠ B + 1 ∧ b ≠ B + 1 + 1) w6 W) (fW : Below (B + 1) w6 W)
  {P0 N0 : Value} (fQ : W.heap[B + 1]? = some (Obj.cells #[P0, N0] 39 (0, 0))) {es : List (Option Nat × Value)} (hmp0 : jK W (B + 1 + 1) es)
  (CQ : jK w1 (B + 1 + 1) (mI A (dB F (cN (pre ++ [x]))).mp)) (J7 : vA (mI A (dB F (cN (pre ++ [x]))).mp)) (hs1 : w1.heap.size = W.heap.size) (T9 : w1.os = W.os) (LV : w1.tape = W.tape) (LW : w1.output = W.output) (cB : ∀ j, j ≠ B + 1 + 1 → w1.heap[j]? = W.heap[j]?)
  {Pv Nv : Value} (hT : kD (B + 5) w1 We Pv Nv (dB F (cN (pre ++ [x]))).ps (dB F (cN (pre ++ [x]))).ns) :
  KeepsFrom w6.heap.size W ((We.setCell ⟨B + 1, 0, none⟩ Pv).setCell ⟨B + 1, 1, none⟩ Nv) ∧ KN (fun b => b < B + 5 ∧ b ≠ B + 1 ∧ b ≠ B + 1 + 1) W ((We.setCell ⟨B + 1, 0, none⟩ Pv).setCell ⟨B + 1, 1, none⟩ Nv) ∧
   DP n (B + 5) (B + 1) (B + 1 + 1) A F (fun b => b < B + 5 ∧ b ≠ B + 1 ∧ b ≠ B + 1 + 1) w6 (pre ++ [x]) ((We.setCell ⟨B + 1, 0, none⟩ Pv).setCell ⟨B + 1, 1, none⟩ Nv) := by
 have cg : ∀ b, b ≠ B + 1 → ((We.setCell ⟨B + 1, 0, none⟩ Pv).setCell ⟨B + 1, 1, none⟩ Nv).heap[b]? = We.heap[b]? := fun b hb => by rw [blk_setCell_other _ _ _ _ hb, blk_setCell_other _ _ _ _ hb]
 have hsz : ((We.setCell ⟨B + 1, 0, none⟩ Pv).setCell ⟨B + 1, 1, none⟩ Nv).heap.size = We.heap.size := by simp [World.size_setCell]
 have tn : We.heap[B + 1]? = some (Obj.cells #[P0, N0] 39 (0, 0)) := (hT.low.block (B + 1) (by omega)).trans ((cB _ (by omega)).trans fQ)
 have xN : ((We.setCell ⟨B + 1, 0, none⟩ Pv).setCell ⟨B + 1, 1, none⟩ Nv).heap[B + 1]? = some (Obj.cells #[Pv, Nv] 39 (0, 0)) := by
  simp [World.setCell, Array.getElem?_modify, tn]
 have WT : KS (fun b => b < B + 5 ∧ b ≠ B + 1 ∧ b ≠ B + 1 + 1) W ((We.setCell ⟨B + 1, 0, none⟩ Pv).setCell ⟨B + 1, 1, none⟩ Nv) := fun b hb => (cg b hb.2.1).trans ((hT.low.block b hb.1).trans (cB b hb.2.2))
 refine ⟨⟨?_, fun k o hk ho hc => ?_⟩, ⟨WT, fun b c z hb => ?_⟩, hks.trans WT, ⟨hT.low.os.trans (T9.trans fW.os), hT.low.tape.trans (LV.trans fW.tape), hT.low.output.trans (LW.trans fW.output), ?_, fun b hb => (WT b ⟨by omega, by omega, by omega⟩).trans (fW.block b hb)⟩, Pv, Nv, xN, ⟨hT.bJ.same fun b hb => cg b (by have := (aD hT.bJ hb).1; omega), hT.bW.same fun b hb => cg b (by have := (aD hT.bW hb).1; omega), hT.apart, Below.refl _ _, fun _ _ _ _ => rfl, KeepsFrom.refl _ _⟩, CQ.of_block ((cg _ (by omega)).trans (hT.low.block _ (by omega))), J7⟩
 ·rw [hsz, ← hs1]; exact hT.low.size
 ·rw [cg k (by omega)]
  exact hT.oa.same k o (by omega) ((cB k (by omega)).trans ho) hc
 ·have hne : b ≠ B + 1 + 1 := fun e => by
   subst e
   obtain ⟨es', ck, h1, _⟩ := hmp0
   rw [h1] at hb; cases hb
  have Ar : b ≠ B + 1 := fun e => by
   subst e
   rw [fQ] at hb
   injection hb with hb
   injection hb with _ hb _
   cases hb
  rw [cg b Ar, hT.fns b c z (by rw [cB b hne]; exact hb), cB b hne]
 ·rw [hsz]; have h1 := hT.low.size; have h2 := fW.size; omega
set_option maxHeartbeats 4000000 in
theorem Ot {n base : Nat} {A : Nat → Nat} {kv : Nat → Value} {F : bA} {rk : Nat → Nat} (hwf : Wf F n rk) (hlen : ∀ i, i < n → (F.kids i).length ≤ 1000) (w : World) (i : Nat) (hi : i < n) (hF : bZ base n A kv F w) (hN : (eO F rk i none).length ≤ 100000) :
  Calls Tryz.prog 175 #[.pointer (some ⟨A i, 0, none⟩)] w (Oq w (gp F rk i)) := by
 refine (callsIn_wide (n := 9)).1 ?_
 refine callsIn_of_wp_marks Tryz.func175 rfl trivial ?_ rfl
 simp only [Tryz.ntmps175, List.size_toArray, List.length_cons, List.length_nil, Nat.reduceAdd, Nat.reduceSub, Array.replicate_succ, Array.replicate_zero, List.push_toArray, List.append_toArray, List.nil_append, List.cons_append]
 have hmm := fun W => run_makeMap (P := Tryz.prog) 224 W
 obtain ⟨w3, uO⟩ : ∃ w3, w3 = ((w.alloc (.cells #[.slice none 0 0, .slice none 0 0] 39)).alloc (.cells #[.slice none 0 0, .slice none 0 0] 39)).alloc (.map #[] 0) := ⟨_, rfl⟩
 have cL : Up w w3 := by rw [uO]; exact ((Up.alloc _ _).trans (Up.alloc _ _)).trans (Up.alloc _ _)
 have hz3 : w3.heap.size = w.heap.size + 3 := by rw [uO]; simp
 have hp3 : jK w3 (w.heap.size + 1 + 1) [] := ⟨#[], 0, by
  rw [uO]
  have h := blk_alloc_new ((w.alloc (.cells #[.slice none 0 0, .slice none 0 0] 39)).alloc (.cells #[.slice none 0 0, .slice none 0 0] 39)) (.map #[] 0)
  simp only [World.size_alloc] at h; exact h, rfl⟩
 have ht3 : w3.heap[w.heap.size + 1]? = some (Obj.cells #[.slice none 0 0, .slice none 0 0] 39 (0, 0)) := by
  rw [uO, blk_alloc_lt _ _ _ (by simp)]
  have h := blk_alloc_new (w.alloc (.cells #[.slice none 0 0, .slice none 0 0] 39)) (.cells #[.slice none 0 0, .slice none 0 0] 39)
  rw [World.size_alloc] at h; exact h
 have ow : w3.heap[w.heap.size]? = some (Obj.cells #[.slice none 0 0, .slice none 0 0] 39 (0, 0)) := by
  rw [uO, blk_alloc_lt _ _ _ (by simp; omega), blk_alloc_lt _ _ _ (by simp)]
  exact blk_alloc_new _ _
 obtain ⟨w4, cg, hp4, hs4, Ou, WU, WV, hb4⟩ := FV (P := Tryz.prog) Tryz.underlying224 Tryz.underlying137 Tryz.r4 hp3 List.nodup_nil (k := none) (.int .i64 (-1)) trivial (fun x hx => by cases hx)
 have eG : Up w w4 := ⟨Ou.trans cL.os, WU.trans cL.tape, WV.trans cL.output, by rw [hs4]; exact cL.size, fun b hb => (hb4 b (by omega)).trans (Below.block cL b hb)⟩
 have ht4 := (hb4 (w.heap.size + 1) (by omega)).trans ht3
 have DQ := (hb4 w.heap.size (by omega)).trans ow
 have hz4 : w4.heap.size = w.heap.size + 3 := hs4.trans hz3
 rw [uO] at cg
 simp only [pk] at cg
 have gd := ag eG
 have J8 := ag ht4
 have HR4 := ag DQ
 have DR := ag hz4
 have DS := ag hp4
 have HF := ag hF
 have FQ := ag hwf
 have Ao := ag hlen
 have HN := ag hN
 clear uO cL hz3 hp3 ht3 ow hp4 hs4 Ou WU WV hb4 eG ht4 DQ hz4 hF hwf hlen hN
 bf fail
 refine ⟨trivial, (callsIn_wide.2 (Vz _ _)).mono ?_⟩
 rintro e w6 ⟨rfl, rfl⟩
 rw [World.size_alloc, DR.out]
 bf fail
 have gO : Up w4 ((w4.alloc (.cells #[.map (some (w.heap.size + 1 + 1))] 224)).alloc (.cells #[.pointer (some ⟨A i, 0, none⟩)] 137)) := (Up.alloc _ _).trans (Up.alloc _ _)
 have Ov : ((w4.alloc (.cells #[.map (some (w.heap.size + 1 + 1))] 224)).alloc (.cells #[.pointer (some ⟨A i, 0, none⟩)] 137)).heap.size = w.heap.size + 5 := by simp [DR.out]
 have Ua : ((w4.alloc (.cells #[.map (some (w.heap.size + 1 + 1))] 224)).alloc (.cells #[.pointer (some ⟨A i, 0, none⟩)] 137)).cell? ⟨w.heap.size + 3 + 1, 0, none⟩ = some (.pointer (some ⟨A i, 0, none⟩)) := by
  have h := bI (w4.alloc (.cells #[.map (some (w.heap.size + 1 + 1))] 224)) #[.pointer (some ⟨A i, 0, none⟩)] 137 0
  rw [World.size_alloc, DR.out] at h; exact h
 have hm6 : ((w4.alloc (.cells #[.map (some (w.heap.size + 1 + 1))] 224)).alloc (.cells #[.pointer (some ⟨A i, 0, none⟩)] 137)).cell? ⟨w.heap.size + 3, 0, none⟩ = some (.map (some (w.heap.size + 1 + 1))) := by
  have h := bI w4 #[.map (some (w.heap.size + 1 + 1))] 224 0
  rw [DR.out] at h
  exact (Up.alloc _ _).cell h
 have ht6 := (Below.block gO (w.heap.size + 1) (by rw [DR.out]; omega)).trans J8.out
 have Ow := (Below.block gO w.heap.size (by rw [DR.out]; omega)).trans HR4.out
 have hp6 := DS.out.of_block (Below.block gO (w.heap.size + 1 + 1) (by rw [DR.out]; omega))
 have hF6 := (HF.out.up gd.out).up gO
 have WW := gd.out.trans gO
 generalize (w4.alloc (.cells #[.map (some (w.heap.size + 1 + 1))] 224)).alloc (.cells #[.pointer (some ⟨A i, 0, none⟩)] 137) = w6 at *
 have hlt : ∀ j, j < n → A j < w.heap.size := fun j hj => HF.out.lt hj
 have hlo : ∀ j b, j < n → (kv j).ownBlock = some b → b < w.heap.size := fun j b hj hb => (HF.out.iw hj hb).2
 have hinj := HF.out.inj
 have HX := ag (show Up w w6 from WW)
 clear gO WW gd J8 HR4 DR DS cg
 generalize hB : w.heap.size = B at *
 have HB : Hid (w.heap.size = B) := hB
 clear hB
 apply wpIn_rangeFunc_ownG (F := Fence.wide) (n := 9) (P := Tryz.prog) (ps := #[11, 12]) (w := w6) rfl (by omega) (gf := 279) (lb := #[.pointer (some ⟨B + 3 + 1, 0, none⟩)]) rfl trivial (enters_of Tryz.func279 (by af) rfl)
  (JA (T := fun b => b < B + 5 ∧ b ≠ B + 1 ∧ b ≠ B + 1 + 1) FQ.out Ao.out (fun j hj => ⟨by have := hlt j hj; omega, by have := hlt j hj; omega, by have := hlt j hj; omega⟩) (fun j b hj hb => ⟨by have := hlo j b hj hb; omega, by have := hlo j b hj hb; omega, by have := hlo j b hj hb; omega⟩) 8 (B + 3 + 1) i hi w6 (fun b hb => by rw [Ov]; exact hb.1) ⟨by omega, by omega, by omega⟩ hF6 Ua)
  (fun h k => KN.trans h k) (fun W l o o' hl ho hc _ => ⟨fun b hb => World.putObj_heap_other (by have := hb.1; omega), fun b c z hb => World.putObj_heap_other (fun e => by subst e; rw [hb] at ho; injection ho with ho; subst ho; cases hc)⟩) (Below.refl _ _) (fun _ => (rfl : (2 : Nat) = 2))
  (DP n (B + 5) (B + 1) (B + 1 + 1) A F (fun b => b < B + 5 ∧ b ≠ B + 1 ∧ b ≠ B + 1 + 1) w6) (fun _ _ _ => False)
 ·exact DP.own Ov
 ·exact fun _ _ _ _ _ h _ _ => h
 ·exact ⟨KS.refl _ _, Below.refl _ _, .slice none 0 0, .slice none 0 0, ht6, ⟨ay.nil _ _ _, ay.nil _ _ _, fun b hb => (by cases hb), Below.refl _ _, fun _ _ _ _ => rfl, KeepsFrom.refl _ _⟩, hp6, by simp [vA, mI, cN, dB, CP]⟩
 ·intro l x W K hK
  simp only [CN]
  cD
  exact hK
 ·rintro l pre x W ⟨hks, fW, Pv, Nv, fQ, uP, hmp, J7⟩ hpl
  obtain ⟨⟨x1, xp⟩, hx1, r8⟩ := x
  have aU := ag hlt
  have WX := ag hinj
  have hxl := hlt x1 hx1
  have Ub : bZ base n A kv F W := hF6.same (fun j hj => hks (A j) ⟨by have := hlt j hj; omega, by have := hlt j hj; omega, by have := hlt j hj; omega⟩) (fun j b hj hb => hks b ⟨by have := hlo j b hj hb; omega, by have := hlo j b hj hb; omega, by have := hlo j b hj hb; omega⟩)
  have hok : qT n pre.length (dB F (cN pre)) := LU pre
  have hb0 : W.cell? ⟨B + 1, 0, none⟩ = some Pv := by simp [World.cell?, fQ]
  have hmb : W.cell? ⟨B + 3, 0, none⟩ = some (.map (some (B + 1 + 1))) := by rw [World.cell?_of_block (a := ⟨B + 3, 0, none⟩) (hks (B + 3) ⟨by omega, by omega, by omega⟩)]; exact hm6
  obtain ⟨pp, pc, rfl, _⟩ := uP.bJ.form (n := pre.length) (by rw [List.length_map]; exact hok.lp)
  have hkeys : ∀ z ∈ mI A (dB F (cN pre)).mp, gI W z.1 := fun z hz => by
   obtain ⟨y, hy, rfl⟩ := List.mem_map.1 hz
   obtain ⟨y1, y2⟩ := y
   cases y1 with
   | none => trivial
   | some k => exact Ub.plain (hok.keys _ hy k rfl)
  obtain ⟨w1, cg, CQ, hs1, T9, LV, LW, cB⟩ := FV (P := Tryz.prog) Tryz.underlying224 Tryz.underlying137 Tryz.r4 hmp J7 (k := some (A x1)) (.int .i64 (pre.length : Nat)) (Ub.plain hx1) hkeys
  simp only [pk] at cg
  have LX : pre.length ≤ 100000 := by have := HN.out; omega
  cD
  have o5 : kD (B + 5) w1 w1 (.slice pp pre.length pc) Nv (dB F (cN pre)).ps (dB F (cN pre)).ns := ⟨uP.bJ.same fun b hb => cB b (by have := (aD uP.bJ hb).1; omega), uP.bW.same fun b hb => cB b (by have := (aD uP.bW hb).1; omega), uP.apart, Below.refl _ _, fun _ _ _ _ => rfl, KeepsFrom.refl _ _⟩
  obtain ⟨np, nc, rfl, _⟩ := uP.bW.form (n := pre.length) (by rw [List.length_map]; exact hok.ln)
  have hput : uf (mI A (dB F (cN pre)).mp) (some (A x1)) (.int .i64 (pre.length : Nat)) = mI A (dB F (cN (pre ++ [⟨(x1, xp), hx1, r8⟩]))).mp := by
   rw [uM, show cN [(⟨(x1, xp), hx1, r8⟩ : mA n)] = [(x1, xp)] from rfl, xM]
   show _ = mI A (k9 (dB F (cN pre)).mp (some x1) ((dB F (cN pre)).ps.length : Nat))
   rw [hok.lp, ← Rz WX.out (fun j hj => by cases hj; exact hx1) hok.keys]; rfl
  rw [hput] at CQ
  have WY : vA (mI A (dB F (cN (pre ++ [⟨(x1, xp), hx1, r8⟩]))).mp) := by rw [← hput]; exact Ol J7 _ _
  have RA : qT n (pre ++ [(⟨(x1, xp), hx1, r8⟩ : mA n)]).length (dB F (cN (pre ++ [⟨(x1, xp), hx1, r8⟩]))) := LU _
  have DN : bZ base n A kv F w1 := Ub.same (fun j hj => cB _ (by have := aU.out j hj; omega)) (fun j b hj hb => cB _ (by have := hlo j b hj hb; omega))
  obtain ⟨z, hz⟩ : ∃ z : Int, z = (((dB F (cN (pre ++ [⟨(x1, xp), hx1, r8⟩]))).mp).lookup xp).getD 0 := ⟨_, rfl⟩
  have WZ : (dB F (cN (pre ++ [⟨(x1, xp), hx1, r8⟩]))).ps = (dB F (cN pre)).ps ++ [z] := by
   rw [hz, uM, show cN [(⟨(x1, xp), hx1, r8⟩ : mA n)] = [(x1, xp)] from rfl, xM]; rfl
  have W0 : (dB F (cN (pre ++ [⟨(x1, xp), hx1, r8⟩]))).ns = (dB F (cN pre)).ns ++ [F.nm x1] := by
   rw [uM, show cN [(⟨(x1, xp), hx1, r8⟩ : mA n)] = [(x1, xp)] from rfl, xM]; rfl
  have LY : Hid (∀ We P2 N2, kD (B + 5) w1 We P2 N2 ((dB F (cN pre)).ps ++ [z]) ((dB F (cN pre)).ns ++ [F.nm x1]) → KeepsFrom w6.heap.size W ((We.setCell ⟨B + 1, 0, none⟩ P2).setCell ⟨B + 1, 1, none⟩ N2) ∧ KN (fun b => b < B + 5 ∧ b ≠ B + 1 ∧ b ≠ B + 1 + 1) W ((We.setCell ⟨B + 1, 0, none⟩ P2).setCell ⟨B + 1, 1, none⟩ N2) ∧
   DP n (B + 5) (B + 1) (B + 1 + 1) A F (fun b => b < B + 5 ∧ b ≠ B + 1 ∧ b ≠ B + 1 + 1) w6 (pre ++ [⟨(x1, xp), hx1, r8⟩]) ((We.setCell ⟨B + 1, 0, none⟩ P2).setCell ⟨B + 1, 1, none⟩ N2)) := fun We P2 N2 hT => DP.next Ov hks fW fQ hmp CQ WY hs1 T9 LV LW cB (by rw [WZ, W0]; exact hT)
  have hb0 : w1.heap[B + 1]? = some (Obj.cells #[.slice pp pre.length pc, .slice np pre.length nc] 39 (0, 0)) := (cB _ (by omega)).trans fQ
  have jh : Hid (∀ w', KS (fun b => b < B + 5) w1 w' → w'.cell? ⟨B + 1, 0, none⟩ = some (.slice pp pre.length pc) ∧ w'.cell? ⟨B + 1, 1, none⟩ = some (.slice np pre.length nc) ∧ w'.cell? ⟨B + 3, 0, none⟩ = some (.map (some (B + 1 + 1))) ∧ w'.cell? ⟨A x1, 0, none⟩ = some (.string (F.nm x1)) ∧ (Instr.lookup 224 (.map (some (B + 1 + 1))) (optr A xp) false).run Tryz.prog w' = .ok (.int .i64 z) w') := fun w' hS => by
   refine ⟨?_, ?_, ?_, ?_, ?_⟩
   ·simp [World.cell?, (hS (B + 1) (by omega)).trans hb0]
   ·simp [World.cell?, (hS (B + 1) (by omega)).trans hb0]
   ·rw [World.cell?_of_block (a := ⟨B + 3, 0, none⟩) ((hS (B + 3) (by show B + 3 < B + 5; omega)).trans (cB (B + 3) (by omega)))]; exact hmb
   ·rw [World.cell?_of_block (a := ⟨A x1, 0, none⟩) (hS (A x1) (by show A x1 < B + 5; omega))]; exact DN.name hx1
   ·have hpl : ∀ j, j < n → Plain w' (A j) := fun j hj => (DN.plain hj).of_block (hS _ (by have := aU.out j hj; show A j < B + 5; omega))
    have h := On (P := Tryz.prog) (w := w') Tryz.underlying224 Tryz.underlying137 Tryz.r4 (z := .int .i64 0) Tryz.zeroValue3 (CQ.of_block (hS _ (by show B + 1 + 1 < B + 5; omega))) (k := xp.map A)
     (by cases xp with | none => trivial | some k => exact hpl k (r8 k rfl)) (fun zz je => by
      obtain ⟨y, hy, rfl⟩ := List.mem_map.1 je
      obtain ⟨y1, y2⟩ := y
      cases y1 with
      | none => trivial
      | some k => exact hpl k (RA.keys _ hy k rfl))
    rw [zI WX.out (fun j hj => r8 j hj) RA.keys] at h
    have e1 : pk (xp.map A) = optr A xp := by cases xp <;> rfl
    have e2 : ((((dB F (cN (pre ++ [⟨(x1, xp), hx1, r8⟩]))).mp).lookup xp).map (Value.int .i64)).getD (.int .i64 0) = .int .i64 z := by rw [hz]; cases List.lookup xp (dB F (cN (pre ++ [⟨(x1, xp), hx1, r8⟩]))).mp <;> rfl
    rw [e1, e2] at h; exact h
  have J9 : Hid (∀ w', KS (fun b => b < B + 5) w1 w' → ∀ o, w'.frozen? ⟨B + 1, o, none⟩ = false) := fun w' hS o => by simp [World.frozen?, (hS (B + 1) (by omega)).trans hb0]
  have Br : Hid (kD (B + 5) w1 w1.drew (.slice pp pre.length pc) (.slice np pre.length nc) (dB F (cN pre)).ps (dB F (cN pre)).ns) := o5.up (Up.drewN w1 1) (by rw [hs1]; have := fW.size; omega)
  have ew : Hid ((dB F (cN pre)).ps.length = pre.length ∧ (dB F (cN pre)).ns.length = pre.length) := ⟨hok.lp, hok.ln⟩
  have Uc : B + 5 ≤ w1.drew.heap.size := by show B + 5 ≤ w1.heap.size; rw [hs1]; have := fW.size; omega
  have HFW1 := ag DN
  clear hput o5 uP J7 WY hok RA WZ W0 hb0 DN Ub hmp CQ cg hks fW fQ hkeys hmb hz cB hs1 T9 LV LW hlt hlo hinj
  generalize (dB F (cN pre)).ps = PS at *
  generalize (dB F (cN pre)).ns = NS at *
  generalize F.nm x1 = nm at *
  refine FO (by af) 15 (KS (fun b => b < B + 5) w1) (KS.refl _ _) (fun hS => ?_)
  simp only [List.size_toArray, List.length_cons, List.length_nil, Nat.reduceAdd, Array.replicate_succ, Array.replicate_zero, List.push_toArray, List.nil_append, List.cons_append]
  generalize w1.drew = Wd at *
  refine bL.take (i := 0) (v := ?DB) rfl (by af) (fun _ _ _ h => h) (by rfl) (fun _ => rfl) (fun w av => ?qm) hS ?DC
  case qm =>
   obtain ⟨q1, q2, q3, q4, q5⟩ := jh.out w av
   aj
   try ah rfl
  try simp only [Act.put, az, aA, aB]
  refine bL.take (i := 1) (v := ?DD) rfl (by af) (fun _ _ _ h => h) (by rfl) (fun _ => rfl) (fun w av => ?qn) hS ?DE
  case qn =>
   obtain ⟨q1, q2, q3, q4, q5⟩ := jh.out w av
   aj
   try ah rfl
  try simp only [Act.put, az, aA, aB]
  refine bL.take (i := 2) (v := ?DF) rfl (by af) (fun _ _ _ h => h) (by rfl) (fun _ => rfl) (fun w av => ?qq) hS ?DG
  case qq =>
   obtain ⟨q1, q2, q3, q4, q5⟩ := jh.out w av
   aj
   try ah rfl
  try simp only [Act.put, az, aA, aB]
  refine bL.take (i := 3) (v := ?NX) rfl (by af) (fun _ _ _ h => h) (by rfl) (fun _ => rfl) (fun w av => ?xH) hS ?NY
  case xH =>
   obtain ⟨q1, q2, q3, q4, q5⟩ := jh.out w av
   aj
   try ah rfl
  try simp only [Act.put, az, aA, aB]
  refine bL.take (i := 4) (v := ?NZ) rfl (by af) (fun _ _ _ h => h) (by rfl) (fun _ => rfl) (fun w av => ?xI) hS ?N9
  case xI =>
   obtain ⟨q1, q2, q3, q4, q5⟩ := jh.out w av
   aj
   try ah rfl
  try simp only [Act.put, az, aA, aB]
  refine bL.take (i := 7) (v := ?J4) rfl (by af) (fun _ _ _ h => h) (by rfl) (fun _ => rfl) (fun w av => ?uJ) hS ?J5
  case uJ =>
   obtain ⟨q1, q2, q3, q4, q5⟩ := jh.out w av
   aj
   try ah rfl
  try simp only [Act.put, az, aA, aB]
  refine bL.take (i := 8) (v := ?T4) rfl (by af) (fun _ _ _ h => h) (by rfl) (fun _ => rfl) (fun w av => ?Bk) hS ?T5
  case Bk =>
   obtain ⟨q1, q2, q3, q4, q5⟩ := jh.out w av
   aj
   try ah rfl
  try simp only [Act.put, az, aA, aB]
  refine bL.take (i := 9) (v := ?T6) rfl (by af) (fun _ _ _ h => h) (by rfl) (fun _ => rfl) (fun w av => ?Bl) hS ?T7
  case Bl =>
   obtain ⟨q1, q2, q3, q4, q5⟩ := jh.out w av
   aj
   try ah rfl
  try simp only [Act.put, az, aA, aB]
  refine bL.take (i := 10) (v := ?Rm) rfl (by af) (fun _ _ _ h => h) (by rfl) (fun _ => rfl) (fun w av => ?Am) hS ?Rn
  case Am =>
   obtain ⟨q1, q2, q3, q4, q5⟩ := jh.out w av
   aj
   try ah rfl
  try simp only [Act.put, az, aA, aB]
  refine bL.take (i := 11) (v := ?Wy) rfl (by af) (fun _ _ _ h => h) (by rfl) (fun _ => rfl) (fun w av => ?FI) hS ?Wz
  case FI =>
   obtain ⟨q1, q2, q3, q4, q5⟩ := jh.out w av
   aj
   try ah rfl
  try simp only [Act.put, az, aA, aB]
  refine bL.take (i := 12) (v := ?WA) rfl (by af) (fun _ _ _ h => h) (by rfl) (fun _ => rfl) (fun w av => ?FJ) hS ?WB
  case FJ =>
   obtain ⟨q1, q2, q3, q4, q5⟩ := jh.out w av
   aj
   try ah rfl
  try simp only [Act.put, az, aA, aB]
  refine bL.vv (i := 5) (i2 := 13) rfl rfl (by af) (fun K' hK => ?_) (fun K' hK => ?_)
  ·aj
   have FX : Hid (kD (B + 5) w1 (Wd.alloc (.cells #[.int .i64 z] 3)) _ _ _ _) := Br.out.up (Up.alloc _ _) Uc
   have DT : B + 5 ≤ (Wd.alloc (.cells #[.int .i64 z] 3)).heap.size := Nat.le_trans Uc (Up.alloc _ _).size
   refine hK.out _ _ (fun _ => FX.out.low.block) (fun _ => ?_)
   try simp only [az, aA, aB]
   refine bL.vv (i := 6) (i2 := 13) rfl rfl (by af) (fun K' hK => ?_) (fun K' hK => ?_)
   ·refine lZ (by rfl) _ _ _ (by rfl) (B + 5) 3 _ 8 Tryz.underlying26 Tryz.gH (by rfl) (by decide) (by rfl) FX.out.bJ (.int .i64 z) Wd.heap.size (by rfl) (bI Wd #[.int .i64 z] 3 0) (by rfl) (by rw [List.length_map, ew.out.1]; omega) DT ?_
    intro g1 DU gD lg gP lq _
    have xO : Hid (kD (B + 5) w1 gD _ _ _ _) := FX.out.pI DT lg gP (lq.imp id (fun e => Nat.le_of_eq e.symm))
    have zJ : B + 5 ≤ gD.heap.size := Nat.le_trans DT gP.size
    refine hK.out _ _ (fun _ => xO.out.low.block) (fun _ => ?_)
    try simp only [Act.put, az, aA, aB]
    refine bL.free (i := 15) (v := ?gv15a) rfl (by af) (fun _ _ _ h => h) (by rfl) (fun _ => rfl) (fun w => ?LZ) (fun _ => xO.out.low.block) ?gr15a
    case LZ =>
     aj
     try ah rfl
    try simp only [Act.put, az, aA, aB]
    refine bL.step (i := 13) rfl (by af) (fun K' hK => ?_)
    aj
    have nM : Hid (kD (B + 5) w1 (gD.alloc (.cells #[.string nm] 9)) _ _ _ _) := xO.out.up (Up.alloc _ _) zJ
    have xP : B + 5 ≤ (gD.alloc (.cells #[.string nm] 9)).heap.size := Nat.le_trans zJ (Up.alloc _ _).size
    refine hK.out _ _ (fun _ => nM.out.low.block) (fun _ => ?_)
    try simp only [az, aA, aB]
    refine bL.step (i := 14) rfl (by af) (fun K' hK => ?_)
    refine lZ (by rfl) _ _ _ (by rfl) (B + 5) 9 _ 16 Tryz.underlying22 Tryz.CO (by rfl) (by decide) (by rfl) nM.out.bW (.string nm) gD.heap.size (by rfl) (bI gD #[.string nm] 9 0) (by rfl) (by rw [List.length_map, ew.out.2]; omega) xP ?_
    intro g2 zK eC ki jb kj _
    have nN : Hid (kD (B + 5) w1 eC _ _ _ _) := nM.out.ou xP ki jb (kj.imp id (fun e => Nat.le_of_eq e.symm))
    have hSf : B + 5 ≤ eC.heap.size := Nat.le_trans xP jb.size
    refine hK.out _ _ (fun _ => nN.out.low.block) (fun _ => ?_)
    try simp only [Act.put, az, aA, aB]
    have tn : eC.cell? ⟨B + 1, 0, none⟩ = some (.slice pp pre.length pc) := (jh.out eC nN.out.low.block).1
    have dS : eC.cell? ⟨B + 1, 1, none⟩ = some (.slice np pre.length nc) := (jh.out eC nN.out.low.block).2.1
    have zL : eC.frozen? ⟨B + 1, 0, none⟩ = false := J9.out eC nN.out.low.block 0
    have ug : eC.frozen? ⟨B + 1, 1, none⟩ = false := J9.out eC nN.out.low.block 1
    have fR := ag (LY.out eC _ _ nN.out)
    refine bL.step (i := 16) rfl (by af) (fun K' hK => ?_)
    aj
    refine hK.out _ _ (bh (by af)) (fun _ => ?_)
    try simp only [az, aA, aB]
    refine bL.free (i := 17) (v := ?gv17a) rfl (by af) (fun _ _ _ h => h) (by rfl) (fun _ => rfl) (fun w => ?gy17a) (bh (by af)) ?gr17a
    case gy17a =>
     aj
     try ah rfl
    try simp only [Act.put, az, aA, aB]
    refine bL.step (i := 18) rfl (by af) (fun K' hK => ?_)
    aj
    refine hK.out _ _ (bh (by af)) (fun _ => ?_)
    refine bL.done (by af) ?_
    cD
    have dx := fR.out
    simp only [List.length_map] at dx
    exact dx
   ·aj
    have xO : Hid (kD (B + 5) w1 ((Wd.alloc (.cells #[.int .i64 z] 3)).alloc (.cells #[.string nm] 9)) _ _ _ _) := FX.out.up (Up.alloc _ _) DT
    have zJ : B + 5 ≤ ((Wd.alloc (.cells #[.int .i64 z] 3)).alloc (.cells #[.string nm] 9)).heap.size := Nat.le_trans DT (Up.alloc _ _).size
    refine hK.out _ _ (fun _ => xO.out.low.block) (fun _ => ?_)
    try simp only [az, aA, aB]
    have o4 := bI (Wd.alloc (.cells #[.int .i64 z] 3)) #[.string nm] 9 0
    have nJ := (Up.alloc (Wd.alloc (.cells #[.int .i64 z] 3)) (.cells #[.string nm] 9)).cell (bI Wd #[.int .i64 z] 3 0)
    rw [World.size_alloc] at o4
    refine bL.step (i := 6) rfl (by af) (fun K' hK => ?_)
    refine lZ (by rfl) _ _ _ (by rfl) (B + 5) 3 _ 8 Tryz.underlying26 Tryz.gH (by rfl) (by decide) (by rfl) xO.out.bJ (.int .i64 z) Wd.heap.size (by rfl) nJ (by rfl) (by rw [List.length_map, ew.out.1]; omega) zJ ?_
    intro g1 DU gD lg gP lq _
    have nM : Hid (kD (B + 5) w1 gD _ _ _ _) := xO.out.pI zJ lg gP (lq.imp id (fun e => Nat.le_of_eq e.symm))
    have xP : B + 5 ≤ gD.heap.size := Nat.le_trans zJ gP.size
    have r9 : gD.cell? ⟨Wd.heap.size + 1, 0, none⟩ = some (.string nm) := by
     rw [gP.cell_far ⟨Wd.heap.size + 1, 0, none⟩ (by simp) (fun e => absurd (aD Br.out.bJ e.symm).2 (by show ¬ (Wd.heap.size + 1 < Wd.heap.size); omega))]; exact o4
    refine hK.out _ _ (fun _ => nM.out.low.block) (fun _ => ?_)
    try simp only [Act.put, az, aA, aB]
    refine bL.free (i := 15) (v := ?gv15b) rfl (by af) (fun _ _ _ h => h) (by rfl) (fun _ => rfl) (fun w => ?L3) (fun _ => nM.out.low.block) ?gr15b
    case L3 =>
     aj
     try ah rfl
    try simp only [Act.put, az, aA, aB]
    refine bL.step (i := 14) rfl (by af) (fun K' hK => ?_)
    refine lZ (by rfl) _ _ _ (by rfl) (B + 5) 9 _ 16 Tryz.underlying22 Tryz.CO (by rfl) (by decide) (by rfl) nM.out.bW (.string nm) (Wd.heap.size + 1) (by rfl) r9 (by rfl) (by rw [List.length_map, ew.out.2]; omega) xP ?_
    intro g2 zK eC ki jb kj _
    have nN : Hid (kD (B + 5) w1 eC _ _ _ _) := nM.out.ou xP ki jb (kj.imp id (fun e => Nat.le_of_eq e.symm))
    have hSf : B + 5 ≤ eC.heap.size := Nat.le_trans xP jb.size
    refine hK.out _ _ (fun _ => nN.out.low.block) (fun _ => ?_)
    try simp only [Act.put, az, aA, aB]
    have tn : eC.cell? ⟨B + 1, 0, none⟩ = some (.slice pp pre.length pc) := (jh.out eC nN.out.low.block).1
    have dS : eC.cell? ⟨B + 1, 1, none⟩ = some (.slice np pre.length nc) := (jh.out eC nN.out.low.block).2.1
    have zL : eC.frozen? ⟨B + 1, 0, none⟩ = false := J9.out eC nN.out.low.block 0
    have ug : eC.frozen? ⟨B + 1, 1, none⟩ = false := J9.out eC nN.out.low.block 1
    have fR := ag (LY.out eC _ _ nN.out)
    refine bL.step (i := 16) rfl (by af) (fun K' hK => ?_)
    aj
    refine hK.out _ _ (bh (by af)) (fun _ => ?_)
    try simp only [az, aA, aB]
    refine bL.free (i := 17) (v := ?gv17b) rfl (by af) (fun _ _ _ h => h) (by rfl) (fun _ => rfl) (fun w => ?gy17b) (bh (by af)) ?gr17b
    case gy17b =>
     aj
     try ah rfl
    try simp only [Act.put, az, aA, aB]
    refine bL.step (i := 18) rfl (by af) (fun K' hK => ?_)
    aj
    refine hK.out _ _ (bh (by af)) (fun _ => ?_)
    refine bL.done (by af) ?_
    cD
    have dx := fR.out
    simp only [List.length_map] at dx
    exact dx
  ·aj
   have FX : Hid (kD (B + 5) w1 (Wd.alloc (.cells #[.string nm] 9)) _ _ _ _) := Br.out.up (Up.alloc _ _) Uc
   have DT : B + 5 ≤ (Wd.alloc (.cells #[.string nm] 9)).heap.size := Nat.le_trans Uc (Up.alloc _ _).size
   refine hK.out _ _ (fun _ => FX.out.low.block) (fun _ => ?_)
   try simp only [az, aA, aB]
   refine bL.step (i := 5) rfl (by af) (fun K' hK => ?_)
   aj
   have xO : Hid (kD (B + 5) w1 ((Wd.alloc (.cells #[.string nm] 9)).alloc (.cells #[.int .i64 z] 3)) _ _ _ _) := FX.out.up (Up.alloc _ _) DT
   have zJ : B + 5 ≤ ((Wd.alloc (.cells #[.string nm] 9)).alloc (.cells #[.int .i64 z] 3)).heap.size := Nat.le_trans DT (Up.alloc _ _).size
   refine hK.out _ _ (fun _ => xO.out.low.block) (fun _ => ?_)
   try simp only [az, aA, aB]
   have nJ := bI (Wd.alloc (.cells #[.string nm] 9)) #[.int .i64 z] 3 0
   have o4 := (Up.alloc (Wd.alloc (.cells #[.string nm] 9)) (.cells #[.int .i64 z] 3)).cell (bI Wd #[.string nm] 9 0)
   rw [World.size_alloc] at nJ
   refine bL.step (i := 6) rfl (by af) (fun K' hK => ?_)
   refine lZ (by rfl) _ _ _ (by rfl) (B + 5) 3 _ 8 Tryz.underlying26 Tryz.gH (by rfl) (by decide) (by rfl) xO.out.bJ (.int .i64 z) (Wd.heap.size + 1) (by rfl) nJ (by rfl) (by rw [List.length_map, ew.out.1]; omega) zJ ?_
   intro g1 DU gD lg gP lq _
   have nM : Hid (kD (B + 5) w1 gD _ _ _ _) := xO.out.pI zJ lg gP (lq.imp id (fun e => Nat.le_of_eq e.symm))
   have xP : B + 5 ≤ gD.heap.size := Nat.le_trans zJ gP.size
   have r9 : gD.cell? ⟨Wd.heap.size, 0, none⟩ = some (.string nm) := by
    rw [gP.cell_far ⟨Wd.heap.size, 0, none⟩ (by simp; omega) (fun e => absurd (aD Br.out.bJ e.symm).2 (by show ¬ (Wd.heap.size < Wd.heap.size); omega))]; exact o4
   refine hK.out _ _ (fun _ => nM.out.low.block) (fun _ => ?_)
   try simp only [Act.put, az, aA, aB]
   refine bL.free (i := 15) (v := ?gv15c) rfl (by af) (fun _ _ _ h => h) (by rfl) (fun _ => rfl) (fun w => ?L7) (fun _ => nM.out.low.block) ?gr15c
   case L7 =>
    aj
    try ah rfl
   try simp only [Act.put, az, aA, aB]
   refine bL.step (i := 14) rfl (by af) (fun K' hK => ?_)
   refine lZ (by rfl) _ _ _ (by rfl) (B + 5) 9 _ 16 Tryz.underlying22 Tryz.CO (by rfl) (by decide) (by rfl) nM.out.bW (.string nm) Wd.heap.size (by rfl) r9 (by rfl) (by rw [List.length_map, ew.out.2]; omega) xP ?_
   intro g2 zK eC ki jb kj _
   have nN : Hid (kD (B + 5) w1 eC _ _ _ _) := nM.out.ou xP ki jb (kj.imp id (fun e => Nat.le_of_eq e.symm))
   have hSf : B + 5 ≤ eC.heap.size := Nat.le_trans xP jb.size
   refine hK.out _ _ (fun _ => nN.out.low.block) (fun _ => ?_)
   try simp only [Act.put, az, aA, aB]
   have tn : eC.cell? ⟨B + 1, 0, none⟩ = some (.slice pp pre.length pc) := (jh.out eC nN.out.low.block).1
   have dS : eC.cell? ⟨B + 1, 1, none⟩ = some (.slice np pre.length nc) := (jh.out eC nN.out.low.block).2.1
   have zL : eC.frozen? ⟨B + 1, 0, none⟩ = false := J9.out eC nN.out.low.block 0
   have ug : eC.frozen? ⟨B + 1, 1, none⟩ = false := J9.out eC nN.out.low.block 1
   have fR := ag (LY.out eC _ _ nN.out)
   refine bL.step (i := 16) rfl (by af) (fun K' hK => ?_)
   aj
   refine hK.out _ _ (bh (by af)) (fun _ => ?_)
   try simp only [az, aA, aB]
   refine bL.free (i := 17) (v := ?gv17c) rfl (by af) (fun _ _ _ h => h) (by rfl) (fun _ => rfl) (fun w => ?gy17c) (bh (by af)) ?gr17c
   case gy17c =>
    aj
    try ah rfl
   try simp only [Act.put, az, aA, aB]
   refine bL.step (i := 18) rfl (by af) (fun K' hK => ?_)
   aj
   refine hK.out _ _ (bh (by af)) (fun _ => ?_)
   refine bL.done (by af) ?_
   cD
   have dx := fR.out
   simp only [List.length_map] at dx
   exact dx
 ·rintro D xs W hD hS ⟨hks, fW, Pv, Nv, fQ, uP, hmp, J7⟩ hK
  have hb0 : W.cell? ⟨B + 1, 0, none⟩ = some Pv := by simp [World.cell?, fQ]
  have cB : W.cell? ⟨B + 1, 1, none⟩ = some Nv := by simp [World.cell?, fQ]
  have Ox : W.heap[B]? = some (Obj.cells #[.slice none 0 0, .slice none 0 0] 39 (0, 0)) := (hks B ⟨by omega, by omega, by omega⟩).trans Ow
  have hok : qT n xs.length (dB F (cN xs)) := LU xs
  obtain ⟨pp, pc, rfl, _⟩ := uP.bJ.form (n := xs.length) (by rw [List.length_map]; exact hok.lp)
  obtain ⟨np, nc, rfl, _⟩ := uP.bW.form (n := xs.length) (by rw [List.length_map]; exact hok.ln)
  have sg : W.cell? ⟨B, 0, none⟩ = some (.slice none 0 0) := by simp [World.cell?, Ox]
  have jg : W.cell? ⟨B, 1, none⟩ = some (.slice none 0 0) := by simp [World.cell?, Ox]
  have uQ : W.frozen? ⟨B, 0, none⟩ = false := by simp [World.frozen?, Ox]
  have mB : W.frozen? ⟨B, 1, none⟩ = false := by simp [World.frozen?, Ox]
  bf fail
  have W4 : D ≠ B := by omega
  have Ud : ((W.setCell ⟨B, 0, none⟩ (.slice pp xs.length pc)).setCell ⟨B, 1, none⟩ (.slice np xs.length nc)).heap[D]? = some (.deferred (some [])) := by
   rw [blk_setCell_other _ _ _ _ W4, blk_setCell_other _ _ _ _ W4]; exact hK
  refine ⟨by simp, .inl ⟨_, _, rfl, run_takeDeferred Ud, ?_⟩⟩
  have hheap : ((W.setCell ⟨B, 0, none⟩ (.slice pp xs.length pc)).setCell ⟨B, 1, none⟩ (.slice np xs.length nc)).heap[B]? = some (Obj.cells #[.slice pp xs.length pc, .slice np xs.length nc] 39 (0, 0)) := by
   simp [World.setCell, Array.getElem?_modify, Ox]
  have hq : ∀ b, b ≠ D → (((W.setCell ⟨B, 0, none⟩ (.slice pp xs.length pc)).setCell ⟨B, 1, none⟩ (.slice np xs.length nc)).putObj D (.deferred none)).heap[b]? = ((W.setCell ⟨B, 0, none⟩ (.slice pp xs.length pc)).setCell ⟨B, 1, none⟩ (.slice np xs.length nc)).heap[b]? := fun b hb => World.putObj_heap_other hb
  have Oy := (hq B (Ne.symm W4)).trans hheap
  have xQ : ∀ b, b ≠ B → ((W.setCell ⟨B, 0, none⟩ (.slice pp xs.length pc)).setCell ⟨B, 1, none⟩ (.slice np xs.length nc)).heap[b]? = W.heap[b]? := fun b hb => by rw [blk_setCell_other _ _ _ _ hb, blk_setCell_other _ _ _ _ hb]
  have hsz : (((W.setCell ⟨B, 0, none⟩ (.slice pp xs.length pc)).setCell ⟨B, 1, none⟩ (.slice np xs.length nc)).putObj D (.deferred none)).heap.size = W.heap.size := by simp [World.size_setCell]
  have hos : (((W.setCell ⟨B, 0, none⟩ (.slice pp xs.length pc)).setCell ⟨B, 1, none⟩ (.slice np xs.length nc)).putObj D (.deferred none)).os = W.os ∧ (((W.setCell ⟨B, 0, none⟩ (.slice pp xs.length pc)).setCell ⟨B, 1, none⟩ (.slice np xs.length nc)).putObj D (.deferred none)).tape = W.tape ∧ (((W.setCell ⟨B, 0, none⟩ (.slice pp xs.length pc)).setCell ⟨B, 1, none⟩ (.slice np xs.length nc)).putObj D (.deferred none)).output = W.output := ⟨rfl, rfl, rfl⟩
  generalize ((W.setCell ⟨B, 0, none⟩ (.slice pp xs.length pc)).setCell ⟨B, 1, none⟩ (.slice np xs.length nc)).putObj D (.deferred none) = We at *
  have hc0 : We.cell? ⟨B, 0, none⟩ = some (.slice pp xs.length pc) := by simp [World.cell?, Oy]
  have hc1 : We.cell? ⟨B, 1, none⟩ = some (.slice np xs.length nc) := by simp [World.cell?, Oy]
  have hown : ∀ {e : TypeId} {v : Value} {vs : List Value}, ay (B + 5) e W v vs → ay (B + 5) e We v vs := fun ho => ho.same fun b hb => by
   have h1 := (aD ho hb).1
   obtain ⟨c, hc⟩ := ho.typed hb
   have hbD : b ≠ D := fun e => by subst e; rw [hK] at hc; cases hc
   rw [hq b hbD, xQ b (by omega)]
  refine ⟨.agg #[.slice pp xs.length pc, .slice np xs.length nc], by simp [results, Tryz.results175, go_sem, hc0, hc1], ?_, _, rfl, .slice pp xs.length pc, .slice np xs.length nc, rfl, ?_, ?_⟩
  ·have hX := HX.out
   have hBw := HB.out
   refine ⟨hos.1.trans (fW.os.trans hX.os), hos.2.1.trans (fW.tape.trans hX.tape), hos.2.2.trans (fW.output.trans hX.output), ?_, fun b hb => ?_⟩
   ·rw [hsz]; have h1 := hX.size; have h2 := fW.size; omega
   ·rw [hBw] at hb
    rw [hq b (by omega), xQ b (by omega), fW.block b (by omega)]
    exact Below.block hX b (by rw [hBw]; exact hb)
  ·show an (fun b => w.heap.size ≤ b) We _ (dB F (eO F rk i none)).ps
   rw [← hS, HB.out]
   exact (hown uP.bJ).ints.sub fun b (hb : B + 5 ≤ b) _ => (by omega : B ≤ b)
  ·show aG (fun b => w.heap.size ≤ b) We _ (dB F (eO F rk i none)).ns
   rw [← hS, HB.out]
   exact (hown uP.bW).strs.sub fun b (hb : B + 5 ≤ b) _ => (by omega : B ≤ b)
 ·rintro D c pre W _ _ h _
  exact h.elim
end Go.Proofs.YtpnmblnahjjmhaaGreat
