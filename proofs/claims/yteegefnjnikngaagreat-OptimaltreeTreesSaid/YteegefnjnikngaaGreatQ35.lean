/- The splits of a tree: plain. Between two rounds of slices.AppendSeq at ints: cut out of .. -/
import Derived.Test.YteegefnjnikngaaGreatQ1
import Derived.Test.YteegefnjnikngaaGreatQ34
import Derived.Test.YteegefnjnikngaaGreatQ29
import Derived.RangeFuncWrites
import Derived.Test.YteegefnjnikngaaGreatQ4
import Derived.Test.YteegefnjnikngaaGreatQ7
import Derived.Laws.EntriesVeiled
import Derived.Shelf.Slices.Empties
import Derived.Test.YteegefnjnikngaaGreatQ3
import Derived.Test.YteegefnjnikngaaGreatQ6
import Derived.Test.YteegefnjnikngaaGreatQ27
import Derived.Shelf.SlGeneric
import Derived.Shelf.SlSortCmp.NoneTotal
import Derived.Test.YteegefnjnikngaaGreatProg
import Derived.Test.YteegefnjnikngaaGreatQ31
import Derived.Test.YteegefnjnikngaaGreatQ9
import Derived.Maps.OwnIn
import Derived.Test.YteegefnjnikngaaGreatQ12
import Derived.Test.YteegefnjnikngaaGreatQ2
import Derived.Test.YteegefnjnikngaaGreatQ25
import Derived.Test.YteegefnjnikngaaGreatQ13
import Derived.Test.YteegefnjnikngaaGreatQ24
import Derived.Test.YteegefnjnikngaaGreatQ14
set_option maxRecDepth 100000
namespace Go.Proofs.YteegefnjnikngaaGreat
section
def zY (t : av) (names : List ByteArray) : Bool := (List.range (aC t.ns).length).any fun j => decide (gJ names (gs t.ns (gi (aC t.ns) j).toNat) < 0)
structure EC (t : av) (names : List ByteArray) : Prop where
 te : aB t = 0
 le : names.length ≤ 32
 nd : ∀ j k, j < k → k < names.length → gs names k ≠ gs names j
 len : (aC t.ns).length = names.length
 has : ∀ j, j < t.ps.length → (gs t.ns j).size ≠ 0 → ∃ b : Nat, b < names.length ∧ gs names b = gs t.ns j
theorem Ct {names : List ByteArray} {a : ByteArray} : 0 ≤ gJ names a ↔ ∃ b, b < names.length ∧ gs names b = a := by
 constructor
 ·intro h
  obtain ⟨k, hk⟩ := Int.eq_ofNat_of_zero_le h
  obtain ⟨h1, h2, _⟩ := ou hk
  exact ⟨k, h1, (of_decide_eq_true h2).symm⟩
 ·rintro ⟨b, hb, e⟩
  have Vb : (List.range names.length).any (fun j => decide (a = gs names j)) = true := List.any_eq_true.2 ⟨b, List.mem_range.2 hb, decide_eq_true e.symm⟩
  rw [← jR] at Vb
  exact of_decide_eq_true Vb
theorem Vc {names : List ByteArray} (h : ∀ j k, j < k → k < names.length → gs names k ≠ gs names j) {a b : Nat} (ha : a < names.length) (hb : b < names.length) (e : gs names a = gs names b) : a = b := by
 rcases Nat.lt_trichotomy a b with c | c | c
 ·exact absurd e.symm (h a b c hb)
 ·exact c
 ·exact absurd e (h b a c ha)
theorem Xz {names : List ByteArray} (h : ∀ j k, j < k → k < names.length → gs names k ≠ gs names j) {b : Nat} (hb : b < names.length) : gJ names (gs names b) = (b : Int) := by
 have h1 : 0 ≤ gJ names (gs names b) := Ct.2 ⟨b, hb, rfl⟩
 obtain ⟨k, hk⟩ := Int.eq_ofNat_of_zero_le h1
 obtain ⟨h2, h3, _⟩ := ou hk
 have h3 := of_decide_eq_true h3
 rw [hk]
 have := Vc h h2 hb h3.symm
 rw [this]
section
variable {t : av} {names : List ByteArray}
end
end
section
open Go.RowKit Go.Shelf Go.Deep
attribute [local go_sem] Oper.semAt_some
theorem az.PZ {base : Nat} {e : TypeId} {w w' : World} {v : Value} {vs : List Value} (h : az base e w v vs) (k : ∀ b, v.ownBlock = some b → w'.heap[b]? = w.heap[b]?) : az base e w' v vs := by
 obtain ⟨hl, h | ⟨g, cap, cur, rfl, hg, hc, hr⟩⟩ := h
 ·exact ⟨hl, .inl h⟩
 ·exact ⟨hl, .inr ⟨g, cap, cur, rfl, hg, by rw [k g rfl]; exact hc, hr⟩⟩
theorem az.ED {base : Nat} {e : TypeId} {w : World} {v : Value} {vs : List Value} (h : az base e w v vs) {b : Nat} (hb : v.ownBlock = some b) : ∃ c, w.heap[b]? = some (Obj.cells c e (0, 0)) := by
 obtain ⟨_, ⟨rfl, _⟩ | ⟨g, cap, cur, rfl, _, hc, _⟩⟩ := h
 ·cases hb
 ·injection hb with hb; subst hb; exact ⟨cur, hc⟩

end
section
open Go.RowKit Go.Shelf Go.Deep
end
section
open Go.RowKit Go.Deep
end
section
open Go.RowKit Go.Deep
end
section
open Go.RowKit Go.Deep
def SE (vs : List Value) (j : Nat) : Value := vs.getD j undef
section
variable {vs : List Value} {P : Nat → Bool} {base : Nat} {w wr : World} {g cap : Nat} {X : List Value}
end
end
end Go.Proofs.YteegefnjnikngaaGreat
namespace Go.Proofs
open Go.Shelf
end Go.Proofs
namespace Go.Proofs.YteegefnjnikngaaGreat
section
open Go Go.RowKit Go.Deep
structure Rb (L L' : Nat → Prop) (W W' : World) : Prop where
 os : W'.os = W.os
 tape : W'.tape = W.tape
 output : W'.output = W.output
 size : W.heap.size ≤ W'.heap.size
 block : ∀ b, b < W.heap.size → ¬ L b → W'.heap[b]? = W.heap[b]?
 more : ∀ b, L' b → (L b ∧ b < W.heap.size) ∨ (W.heap.size ≤ b ∧ b < W'.heap.size)
def Vd {α : Type} (J : List α → (Nat → Prop) → World → Prop) : Prop := ∀ s L L' W W', J s L W → Rb L L' W W' → J s L' W'
def Ve {α : Type} (F : Fence) (n : Nat) (P : Program) (g : Nat) (lb : Array Value) (encs : α → Array Value) (Gv : α → (Nat → Prop) → World → Prop) (Gb : α → Nat → Prop) (S : List α → Prop) (N : Nat) (w w9 : World) (L0 : Nat → Prop) : Prop :=
 ∀ (l : Nat) (J : List α → (Nat → Prop) → World → Prop) (W : World), Below w.heap.size w W → (∀ b, L0 b → b < w9.heap.size ∧ W.heap[b]? = w9.heap[b]?) → w9.heap.size ≤ W.heap.size → Vd J →
  (∀ pre x L W1, J pre L W1 → Gv x L W1 → Below w.heap.size w W1 → (∀ b, L b → w.heap.size ≤ b ∧ b < W1.heap.size) → pre.length < N → YieldAt F (n - 1) P l (encs x) W1 fun e W' =>
   e = .returned (.bool true) ∧ J (pre ++ [x]) L W' ∧ Below w.heap.size w W' ∧ W1.heap.size ≤ W'.heap.size ∧ ∀ b, (L b ∨ Gb x b) → W'.heap[b]? = W1.heap[b]?) →
  J [] L0 W →
  CallsIn F n P g (#[.func (.yield l) #[] #[]] ++ lb) W fun e W' => (∃ v, e = .returned v) ∧ ∃ xs L, S xs ∧ J xs L W'
def Oe {α : Type} (B : Nat) (w0 : World) (I : List α → (Nat → Prop) → World → Prop) (xs : List α) (L Lk : Nat → Prop) (W : World) : Exit → Act → World → Prop
 | .normal, _, W' => KeepsFrom B W W' ∧ Below w0.heap.size w0 W' ∧ (∀ b, Lk b → W'.heap[b]? = W.heap[b]?) ∧ I xs L W'
 | _, _, _ => False
theorem FT {α : Type} {F : Fence} {n : Nat} {P : Program} {w : World} {g : Operand} {ps : Array Tmp} {assign body : Code} {Q : Exit → Act → World → Prop} {a : Act}
  (hro : F.round = none) (h1 : 1 ≤ n) {gf : Nat} {lb : Array Value} (hg : a.eval g = .func (.func gf) #[] lb) (hFg : F.fn gf) (eg : ∀ args w, (callFunc gf args).run P w = .ok (.enter gf args) w)
  {encs : α → Array Value} {Gv : α → (Nat → Prop) → World → Prop} {Gb : α → Nat → Prop} {S : List α → Prop} {N : Nat} {w0 : World} {L0 : Nat → Prop} (hseq : Ve F (n - 1) P gf lb encs Gv Gb S N w0 w L0) (AK : ∀ b, L0 b → b < w.heap.size) (hGb : ∀ x L W b, Gv x L W → Gb x b → ∃ o, W.heap[b]? = some o ∧ o.isCells = true) (hb0 : Below w0.heap.size w0 w) (hps : ∀ x, (encs x).size = ps.size)
  (hGv : ∀ x L, OwnFrom w.heap.size (fun (_ : Unit) W => Gv x L W))
  (I : List α → (Nat → Prop) → World → Prop) (hA : Vd I) (hI : ∀ L, OwnFrom w.heap.size (fun s W => I s L W)) (h0 : I [] L0 w) (a₁ : α → Act)
  (hassign : ∀ (l : Nat) (x : α) (W : World) (K : Act → World → Prop), K (a₁ x) W →
   assign.wpIn (F.inRound l) (n - 1 - 1) P (Exit.then K (fun _ _ _ => False)) { tmps := (ps.zip (encs x)).foldl (fun t (p, v) => t.setIfInBounds p v) a.tmps, defers := [] } W)
  (hbody : ∀ (l : Nat) (pre : List α) (x : α) (L : Nat → Prop) (W : World), I pre L W → Gv x L W → Below w0.heap.size w0 W → (∀ b, L b → w0.heap.size ≤ b ∧ b < W.heap.size) → pre.length < N → body.wpIn (F.inRound l) (n - 1 - 1) P (Oe w.heap.size w0 I (pre ++ [x]) L (fun b => L b ∨ Gb x b) W) (a₁ x) W)
  (hdone : ∀ (D : Nat) (xs : List α) (L : Nat → Prop) (W : World), w.heap.size ≤ D → S xs → I xs L W → W.heap[D]? = some (.deferred (some [])) → Q .normal { a with defers := { target := .collected D, args := #[] } :: a.defers } W) :
  (Code.rangeFunc g ps assign body).wpIn F n P Q a w := by
 refine wpIn_rangeFunc ?_
 intro fn hfn
 rw [hro]
 obtain ⟨rec, uZ⟩ : ∃ rec : LoopState → Option Code → Loop, rec = fun st pe => { state := st, pending := pe, fn, tmps := a.tmps, params := ps, assign, body, defers := w.heap.size } := ⟨_, rfl⟩
 obtain ⟨D, hD⟩ : ∃ D, D = w.heap.size := ⟨_, rfl⟩
 obtain ⟨W1, hW1⟩ : ∃ W1, (w.alloc (.deferred (some []))).alloc (.loop (rec .ready none)) = W1 := ⟨_, rfl⟩
 have hsz : W1.heap.size = D + 2 := by rw [← hW1, hD]; simp
 have O5 : W1.heap[D + 1]? = some (.loop (rec .ready none)) := by
  rw [← hW1, hD]; have := World.alloc_heap_new (w.alloc (.deferred (some []))) (.loop (rec .ready none)); rwa [World.size_alloc] at this
 have PA : W1.heap[D]? = some (.deferred (some [])) := by
  rw [← hW1, hD]; exact (Below.heap_alloc _ _ _ (by simp)).trans (World.alloc_heap_new w _)
 have hI1 : I [] L0 W1 := by rw [← hW1]; exact (hI _).alloc _ ((hI _).alloc _ h0)
 have hb1 : Below w0.heap.size w0 W1 := by
  rw [← hW1]; exact hb0.trans ((((Below.refl _ w).alloc (Nat.le_refl _) _).alloc (by simp) _).mono hb0.size)
 have hb0s := hb0.size
 have Vf : ∀ {W : World} (l : Nat) (o : Obj), D ≤ l → Below w0.heap.size w0 W → Below w0.heap.size w0 (W.putObj l o) := fun {W} l o hl hb =>
  ⟨hb.os, hb.tape, hb.output, by have := hb.size; simpa using this, fun b hbb => (World.putObj_heap_other (by omega)).trans (hb.block b hbb)⟩
 refine ⟨D + 1, [{ target := .collected D, args := #[] }], W1, { target := .fn (.func gf) lb, args := #[.func (.yield (D + 1)) #[] #[]] }, W1, gf,
  #[.func (.yield (D + 1)) #[] #[]] ++ lb, W1, ?_, ?_, ?_, ?_, fun _ => h1, ?_⟩
 ·rw [← hW1, uZ, hD]; exact run_enterLoop_outer _ _ _ _ _
 ·simp only [resolve, hg]
  simp [go_sem]
 ·intro f' hf'; simp [Target.leads] at hf'; subst hf'; exact hFg
 ·simp [invoke, go_sem, eg]
 ·refine (hseq (D + 1) (fun pre L W => I pre L W ∧ W.heap[D + 1]? = some (.loop (rec .ready none)) ∧ W.heap[D]? = some (.deferred (some [])) ∧ ∀ b, L b → b ≠ D ∧ b ≠ D + 1) W1 hb1 (fun b hb => ⟨AK b hb, by rw [← hW1]; exact (Below.heap_alloc _ _ _ (by have := AK b hb; simp; omega)).trans (Below.heap_alloc _ _ _ (AK b hb))⟩) (by rw [hsz, ← hD]; omega) ?_ ?_ ⟨hI1, O5, PA, fun b h => by have := AK b h; omega⟩).mono ?_
  ·rintro s L L' A B ⟨h1, h2, h3, h4⟩ hs
   have hlt := (Array.getElem?_eq_some_iff.1 h2).1
   refine ⟨hA s L L' A B h1 hs, (hs.block _ hlt fun e => ?_).trans h2, (hs.block _ (by omega) fun e => ?_).trans h3, fun b hb => ?_⟩
   ·have := h4 _ e; omega
   ·have := h4 _ e; omega
   ·rcases hs.more b hb with e | e
    ·exact h4 b e.1
    ·omega
  ·rintro pre x L W ⟨hi, hl, hk, GP⟩ LA iV hLw hlen
   have hlt : D + 1 < W.heap.size := (Array.getElem?_eq_some_iff.1 hl).1
   have hy := run_yield (P := P) (args := encs x) hl (by rw [uZ]; exact hps x)
   rw [uZ] at hy
   refine ⟨fn, _, assign, body, hy, roundIn_of_wpIn hfn (hassign _ x W _ ⟨_, run_beginRound hl (by rw [uZ]), ?_⟩)⟩
   obtain ⟨W2, hW2⟩ : ∃ W2, W.putObj (D + 1) (.loop { rec .ready none with state := .busy }) = W2 := ⟨_, rfl⟩
   have hl2 : W2.heap[D + 1]? = some (.loop { rec .ready none with state := .busy }) := by rw [← hW2]; exact World.putObj_heap_same hlt
   have hk2 : W2.heap[D]? = some (.deferred (some [])) := by rw [← hW2]; exact (World.putObj_heap_other (by omega)).trans hk
   have hi2 : I pre L W2 := by rw [← hW2]; exact (hI L).putObj _ hi (by omega) hl rfl
   have hg2 : Gv x L W2 := by rw [← hW2]; exact (hGv x L).putObj (s := ()) _ LA (by omega) hl rfl
   have hs2 : W2.heap.size = W.heap.size := by rw [← hW2]; simp
   have ho2 : ∀ b, b ≠ D + 1 → W2.heap[b]? = W.heap[b]? := fun b hb => by rw [← hW2]; exact World.putObj_heap_other (by omega)
   have DU : Below w0.heap.size w0 W2 := by rw [← hW2]; exact Vf _ _ (by omega) iV
   rw [hW2]
   refine wpIn_mono (hbody _ pre x L W2 hi2 hg2 DU (fun b hb => by rw [hs2]; exact hLw b hb) hlen) ?_
   rintro e a3 W3 hp
   cases e with
   | normal =>
    obtain ⟨hk3, hb3, hL3, Py⟩ := hp
    have A9 := hk3.same _ _ (by omega) hl2 rfl
    have hk4 := hk3.same _ _ (by omega) hk2 rfl
    have hend := run_endRound (P := P) none A9
    rw [uZ] at hend
    refine ⟨_, _, hend, rfl, ⟨?_, ?_, ?_, GP⟩, Vf _ _ (by omega) hb3, ?_, fun b hb => ?_⟩
    ·exact (hI L).putObj _ Py (by omega) A9 rfl
    ·rw [uZ]; exact World.putObj_heap_same (Array.getElem?_eq_some_iff.1 A9).1
    ·exact (World.putObj_heap_other (by omega)).trans hk4
    ·have := hk3.size; simp; omega
    ·have hne : b ≠ D + 1 := by
      rcases hb with hb | hb
      ·have := GP b hb; omega
      ·rintro rfl
       obtain ⟨o, h1, h2⟩ := hGb _ _ _ _ LA hb
       rw [hl] at h1; injection h1 with h1; subst h1; cases h2
     exact (World.putObj_heap_other (by omega)).trans ((hL3 b hb).trans (ho2 b (by omega)))
   | ret => exact hp.elim
   | exit id => exact hp.elim
   | goto t => exact hp.elim
   | panic ch => exact hp.elim
   | outgrown => exact hp.elim
  ·rintro e W2 ⟨⟨v, rfl⟩, xs, L, hS, hi, hl, hk, GP⟩
   exact ⟨none, _, by have := run_endLoop (P := P) hl (by rw [uZ]; simp); rw [uZ] at this; exact this, hdone D xs L _ (by omega) hS ((hI L).putObj _ hi (by omega) hl rfl) ((World.putObj_heap_other (by omega)).trans hk)⟩
end
section
section
variable {t : av} {names : List ByteArray}
end
end
section
open Go.RowKit Go.Shelf Go.Deep
attribute [local go_sem] Oper.semAt_some
end
section
open Go.RowKit Go.Shelf Go.Deep
end
section
inductive BT (α : Type) where
 | leaf (x : α)
 | node (a b : BT α)
namespace BT
def map {α β : Type} (f : α → β) : BT α → BT β
 | leaf x => leaf (f x)
 | node a b => node (map f a) (map f b)
def fc {α : Type} : BT α → List α
 | leaf x => [x]
 | node a b => fc a ++ fc b
inductive EE {α : Type} : BT α → BT α → Prop
 | leaf (x : α) : EE (leaf x) (leaf x)
 | node {a a' b b' : BT α} : EE a a' → EE b b' → EE (node a b) (node a' b')
 | swap {a a' b b' : BT α} : EE a a' → EE b b' → EE (node a b) (node b' a')
end BT
section
variable {α β : Type} [Inhabited α] [Inhabited β]
def aU (p : Nat → Bool) (L : List α) (n : Nat) : List α := ((List.range n).filter p).map fun i => L.getD i default
theorem gm (p : Nat → Bool) (L : List α) (n : Nat) : aU p L (n + 1) = aU p L n ++ if p n then [L.getD n default] else [] := by
 unfold aU
 rw [List.range_succ, List.filter_append, List.map_append]
 congr 1
 cases h : p n <;> simp [h]
theorem u7 (f : α → β) (p : Nat → Bool) (L : List α) : ∀ {n : Nat}, n ≤ L.length → aU p (L.map f) n = (aU p L n).map f
 | 0, _ => rfl
 | n + 1, h => by
  rw [gm, gm, List.map_append, u7 f p L (by omega)]
  congr 1
  split
  ·have : n < L.length := h
   simp [this]
  ·rfl
theorem qT (p : Nat → Bool) (L : List α) : ∀ {n : Nat}, n ≤ L.length → (aU p L n ++ aU (fun i => !p i) L n).Perm (L.take n)
 | 0, _ => by simp [aU]
 | n + 1, h => by
  have hn : n < L.length := h
  have ih := qT p L (n := n) (by omega)
  rw [gm, gm, List.take_succ_eq_append_getElem hn]
  have hg : L.getD n default = L[n] := by simp [hn]
  rw [hg]
  cases hp : p n
  ·simp only [Bool.false_eq_true, if_false, List.append_nil, Bool.not_false, if_true]
   rw [← List.append_assoc]
   exact ih.append_right _
  ·simp only [if_true, Bool.not_true, Bool.false_eq_true, if_false, List.append_nil]
   refine List.Perm.trans ?_ (ih.append_right _)
   rw [List.append_assoc, List.append_assoc]
   exact List.Perm.append_left _ List.perm_append_comm
theorem BP {p : Nat → Bool} {L : List α} {n : Nat} {x : α} : x ∈ aU p L n ↔ ∃ i, i < n ∧ p i = true ∧ L.getD i default = x := by
 unfold aU
 rw [List.mem_map]
 constructor
 ·rintro ⟨i, hi, h⟩
  rw [List.mem_filter, List.mem_range] at hi
  exact ⟨i, hi.1, hi.2, h⟩
 ·rintro ⟨i, h1, h2, h3⟩
  exact ⟨i, List.mem_filter.2 ⟨List.mem_range.2 h1, h2⟩, h3⟩
theorem mJ {p q : Nat → Bool} {L : List α} {n : Nat} (h : ∀ i, i < n → p i = q i) : aU p L n = aU q L n := by
 unfold aU
 congr 1
 exact List.filter_congr fun i hi => h i (List.mem_range.1 hi)
theorem kP (p : Nat → Bool) (L : List α) (n : Nat) : (aU p L n).length ≤ n := by
 unfold aU
 rw [List.length_map]
 exact Nat.le_trans (List.length_filter_le _ _) (by simp)
def rt : Nat → List α → List (BT α)
 | 0, _ => []
 | _ + 1, [] => []
 | _ + 1, [x] => [.leaf x]
 | d + 1, x :: y :: L => (List.range' 1 (2 ^ (y :: L).length - 1)).flatMap fun bits =>
   (rt d (x :: aU (fun i => !bits.testBit i) (y :: L) (y :: L).length)).flatMap fun a =>
    (rt d (aU (fun i => bits.testBit i) (y :: L) (y :: L).length)).map fun b => .node a b
def rf : Nat → List α → List (BT α)
 | 0, _ => []
 | _ + 1, [] => []
 | _ + 1, [x] => [.leaf x]
 | d + 1, x :: y :: L => (List.range (2 ^ (y :: L).length - 1)).flatMap fun bits =>
   (rf d (x :: aU (fun i => bits.testBit i) (y :: L) (y :: L).length)).flatMap fun a =>
    (rf d (aU (fun i => !bits.testBit i) (y :: L) (y :: L).length)).map fun b => .node a b
theorem ny {γ δ : Type} {f g : γ → List δ} : ∀ {l : List γ}, (∀ a ∈ l, (f a).Perm (g a)) → (l.flatMap f).Perm (l.flatMap g)
 | [], _ => by simp
 | a :: l, h => by
  rw [List.flatMap_cons, List.flatMap_cons]
  exact (h a (by simp)).append (ny fun b hb => h b (by simp [hb]))
theorem tI {γ δ : Type} {f : γ → List δ} {l l' : List γ} (h : l.Perm l') : (l.flatMap f).Perm (l'.flatMap f) := by
 induction h with
 | nil => exact List.Perm.refl _
 | cons x _ ih => rw [List.flatMap_cons, List.flatMap_cons]; exact ih.append_left _
 | swap x y l =>
  simp only [List.flatMap_cons]
  rw [← List.append_assoc, ← List.append_assoc]
  exact List.perm_append_comm.append_right _
 | trans _ _ h1 h2 => exact h1.trans h2
theorem LB (m : Nat) : (List.range' 1 (m - 1)).Perm ((List.range (m - 1)).map fun k => m - 1 - k) := by
 have h : (List.range' 1 (m - 1)) = ((List.range (m - 1)).map fun k => m - 1 - k).reverse := by
  apply List.ext_getElem
  ·simp
  ·intro i h1 h2
   simp at h1
   simp
   omega
 rw [h]
 exact List.reverse_perm _
theorem Jb : ∀ (d : Nat) (L : List α), (rt d L).Perm (rf d L)
 | 0, _ => List.Perm.refl _
 | _ + 1, [] => List.Perm.refl _
 | _ + 1, [x] => List.Perm.refl _
 | d + 1, x :: y :: L => by
  rw [rt, rf]
  refine List.Perm.trans (tI (LB _)) ?_
  rw [List.flatMap_map]
  refine ny fun k hk => ?_
  have hk := List.mem_range.1 hk
  generalize hn : (y :: L).length = n at *
  have e1 : ∀ i, i < n → (2 ^ n - 1 - k).testBit i = !k.testBit i := fun i hi => by
   have := Nat.testBit_two_pow_sub_succ (x := k) (n := n) (by omega) i
   rw [show 2 ^ n - 1 - k = 2 ^ n - (k + 1) by omega, this]
   simp [hi]
  rw [mJ (p := fun i => !(2 ^ n - 1 - k).testBit i) (q := fun i => k.testBit i) fun i hi => by rw [e1 i hi, Bool.not_not], mJ (p := fun i => (2 ^ n - 1 - k).testBit i) (q := fun i => !k.testBit i) e1]
  refine List.Perm.trans (tI (Jb d _)) (ny fun a _ => (Jb d _).map _)
theorem y8 (f : α → β) : ∀ (d : Nat) (L : List α), rt d (L.map f) = (rt d L).map (BT.map f)
 | 0, _ => rfl
 | _ + 1, [] => rfl
 | _ + 1, [x] => rfl
 | d + 1, x :: y :: L => by
  rw [List.map_cons, List.map_cons, rt, rt, List.map_flatMap]
  have hl : (f y :: L.map f).length = (y :: L).length := by simp
  rw [hl]
  congr 1
  funext bits
  have e : f y :: L.map f = (y :: L).map f := rfl
  rw [e, u7 f _ _ (Nat.le_refl _), u7 f _ _ (Nat.le_refl _), ← List.map_cons, y8 f d, y8 f d, List.map_flatMap, List.flatMap_map]
  congr 1
  funext a
  rw [List.map_map, List.map_map]
  rfl
theorem ve : ∀ (d : Nat) (L : List α), ∀ r ∈ rt d L, r.fc.Perm L
 | 0, _ => fun r h => by cases h
 | _ + 1, [] => fun r h => by cases h
 | _ + 1, [x] => fun r h => by rw [rt, List.mem_singleton] at h; rw [h]; exact List.Perm.refl _
 | d + 1, x :: y :: L => fun r h => by
  rw [rt, List.mem_flatMap] at h
  obtain ⟨bits, hb, h⟩ := h
  rw [List.mem_flatMap] at h
  obtain ⟨a, ha, h⟩ := h
  obtain ⟨b, hb2, rfl⟩ := List.mem_map.1 h
  have h1 := ve d _ a ha
  have h2 := ve d _ b hb2
  have h3 := qT (fun i => bits.testBit i) (y :: L) (Nat.le_refl _)
  rw [List.take_length] at h3
  rw [BT.fc]
  refine (h1.append h2).trans ?_
  rw [List.cons_append]
  exact (List.perm_append_comm.trans h3).cons _
end
section
variable {α β : Type}
end
section
variable {α : Type} [Inhabited α]
end
end
section
section
variable {names : List ByteArray} {l : List (List Int)}
end
end
section
open Go.RowKit Go.Deep Go.Sort Go.Shelf Go.Lib
end
section
open Go.RowKit Go.Shelf Go.Deep Go.Sort
abbrev El := Nat × Value
section
variable (w0 : World) (t : av) (names : List ByteArray) (l Bt Be Bn Bq N : Nat) (J : List El → (Nat → Prop) → World → Prop)
variable {w0 t names l Bt Be Bn Bq N J}
theorem EF (W : World) (base : Nat) (e : TypeId) (u : Value) (h : base ≤ W.heap.size) : az base e (W.alloc (.cells #[u] e)) (.slice (some ⟨W.heap.size, 0, none⟩) 1 1) [u] :=
 ⟨rfl, .inr ⟨W.heap.size, 1, #[u], rfl, h, blk_alloc_new W _, Nat.le_refl _, by decide, rfl, rfl⟩⟩
end
end
section
open Go.RowKit Go.Shelf Go.Deep
end
section
open Go.RowKit Go.Deep
end
section
open Go.RowKit Go.Deep
end
end Go.Proofs.YteegefnjnikngaaGreat
