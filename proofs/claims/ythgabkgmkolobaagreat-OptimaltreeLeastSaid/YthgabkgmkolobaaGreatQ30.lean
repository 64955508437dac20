/- A range over a function whose iterator owns blocks: between two yields it may write what .. -/
import Derived.RangeFuncWrites
import Derived.Test.YthgabkgmkolobaaGreatQ6
import Derived.Laws.EntriesVeiled
import Derived.Test.YthgabkgmkolobaaGreatQ3
import Derived.StillTail
import Derived.Laws.IdiomStrings
import Derived.Sort.OwnSorted
import Derived.Shelf.Slices.In.SortNone
import Derived.Shelf.SlGeneric
import Derived.Shelf.Lays
import Derived.Shelf.Sort.Plain
import Derived.Ground.NamesProg
import Derived.Test.YthgabkgmkolobaaGreatProg
import Derived.Test.YthgabkgmkolobaaGreatQ29
import Derived.Test.YthgabkgmkolobaaGreatQ27
import Derived.Test.YthgabkgmkolobaaGreatQ26
import Derived.Test.YthgabkgmkolobaaGreatQ23
import Derived.Test.YthgabkgmkolobaaGreatQ19
import Derived.Test.YthgabkgmkolobaaGreatQ15
import Derived.Test.YthgabkgmkolobaaGreatQ17
import Derived.Test.YthgabkgmkolobaaGreatQ5
import Derived.Test.YthgabkgmkolobaaGreatQ21
import Derived.Test.YthgabkgmkolobaaGreatQ1
import Derived.Test.YthgabkgmkolobaaGreatQ2
import Derived.Test.YthgabkgmkolobaaGreatQ22
import Derived.Test.YthgabkgmkolobaaGreatQ8
import Derived.Test.YthgabkgmkolobaaGreatQ24
import Derived.Test.YthgabkgmkolobaaGreatQ25
import Derived.Maps.OwnIn
import Derived.Test.YthgabkgmkolobaaGreatQ11
import Derived.Test.YthgabkgmkolobaaGreatQ12
import Derived.OwnWalkIn
import Derived.Deep.AppendLies
import Derived.Shelf.SlSortCmp.NoneTotal
set_option maxRecDepth 100000
namespace Go.Proofs.YthgabkgmkolobaaGreat
section
open Go Go.RowKit Go.Deep
structure Wc (L L' : Nat → Prop) (W W' : World) : Prop where
 os : W'.os = W.os
 tape : W'.tape = W.tape
 output : W'.output = W.output
 size : W.heap.size ≤ W'.heap.size
 block : ∀ b, b < W.heap.size → ¬ L b → W'.heap[b]? = W.heap[b]?
 more : ∀ b, L' b → (L b ∧ b < W.heap.size) ∨ (W.heap.size ≤ b ∧ b < W'.heap.size)
def Z4 {α : Type} (J : List α → (Nat → Prop) → World → Prop) : Prop := ∀ s L L' W W', J s L W → Wc L L' W W' → J s L' W'
def Z6 {α : Type} (F : Fence) (n : Nat) (P : Program) (g : Nat) (lb : Array Value) (encs : α → Array Value) (Gv : α → (Nat → Prop) → World → Prop) (Gb : α → Nat → Prop) (S : List α → Prop) (N : Nat) (w w9 : World) (L0 : Nat → Prop) : Prop :=
 ∀ (l : Nat) (J : List α → (Nat → Prop) → World → Prop) (W : World), Below w.heap.size w W → (∀ b, L0 b → b < w9.heap.size ∧ W.heap[b]? = w9.heap[b]?) → w9.heap.size ≤ W.heap.size → Z4 J →
  (∀ pre x L W1, J pre L W1 → Gv x L W1 → Below w.heap.size w W1 → (∀ b, L b → w.heap.size ≤ b ∧ b < W1.heap.size) → pre.length < N → YieldAt F (n - 1) P l (encs x) W1 fun e W' =>
   e = .returned (.bool true) ∧ J (pre ++ [x]) L W' ∧ Below w.heap.size w W' ∧ W1.heap.size ≤ W'.heap.size ∧ ∀ b, (L b ∨ Gb x b) → W'.heap[b]? = W1.heap[b]?) →
  J [] L0 W →
  CallsIn F n P g (#[.func (.yield l) #[] #[]] ++ lb) W fun e W' => (∃ v, e = .returned v) ∧ ∃ xs L, S xs ∧ J xs L W'
def SP {α : Type} (B : Nat) (w0 : World) (I : List α → (Nat → Prop) → World → Prop) (xs : List α) (L Lk : Nat → Prop) (W : World) : Exit → Act → World → Prop
 | .normal, _, W' => KeepsFrom B W W' ∧ Below w0.heap.size w0 W' ∧ (∀ b, Lk b → W'.heap[b]? = W.heap[b]?) ∧ I xs L W'
 | _, _, _ => False
theorem Ki {α : Type} {F : Fence} {n : Nat} {P : Program} {w : World} {g : Operand} {ps : Array Tmp} {assign body : Code} {Q : Exit → Act → World → Prop} {a : Act}
  (hro : F.round = none) (h1 : 1 ≤ n) {gf : Nat} {lb : Array Value} (hg : a.eval g = .func (.func gf) #[] lb) (hFg : F.fn gf) (eg : ∀ args w, (callFunc gf args).run P w = .ok (.enter gf args) w)
  {encs : α → Array Value} {Gv : α → (Nat → Prop) → World → Prop} {Gb : α → Nat → Prop} {S : List α → Prop} {N : Nat} {w0 : World} {L0 : Nat → Prop} (hseq : Z6 F (n - 1) P gf lb encs Gv Gb S N w0 w L0) (D5 : ∀ b, L0 b → b < w.heap.size) (hGb : ∀ x L W b, Gv x L W → Gb x b → ∃ o, W.heap[b]? = some o ∧ o.isCells = true) (hb0 : Below w0.heap.size w0 w) (hps : ∀ x, (encs x).size = ps.size)
  (hGv : ∀ x L, OwnFrom w.heap.size (fun (_ : Unit) W => Gv x L W))
  (I : List α → (Nat → Prop) → World → Prop) (hA : Z4 I) (hI : ∀ L, OwnFrom w.heap.size (fun s W => I s L W)) (h0 : I [] L0 w) (a₁ : α → Act)
  (hassign : ∀ (l : Nat) (x : α) (W : World) (K : Act → World → Prop), K (a₁ x) W →
   assign.wpIn (F.inRound l) (n - 1 - 1) P (Exit.then K (fun _ _ _ => False)) { tmps := (ps.zip (encs x)).foldl (fun t (p, v) => t.setIfInBounds p v) a.tmps, defers := [] } W)
  (hbody : ∀ (l : Nat) (pre : List α) (x : α) (L : Nat → Prop) (W : World), I pre L W → Gv x L W → Below w0.heap.size w0 W → (∀ b, L b → w0.heap.size ≤ b ∧ b < W.heap.size) → pre.length < N → body.wpIn (F.inRound l) (n - 1 - 1) P (SP w.heap.size w0 I (pre ++ [x]) L (fun b => L b ∨ Gb x b) W) (a₁ x) W)
  (hdone : ∀ (D : Nat) (xs : List α) (L : Nat → Prop) (W : World), w.heap.size ≤ D → S xs → I xs L W → W.heap[D]? = some (.deferred (some [])) → Q .normal { a with defers := { target := .collected D, args := #[] } :: a.defers } W) :
  (Code.rangeFunc g ps assign body).wpIn F n P Q a w := by
 refine wpIn_rangeFunc ?_
 intro fn hfn
 rw [hro]
 obtain ⟨rec, yK⟩ : ∃ rec : LoopState → Option Code → Loop, rec = fun st pe => { state := st, pending := pe, fn, tmps := a.tmps, params := ps, assign, body, defers := w.heap.size } := ⟨_, rfl⟩
 obtain ⟨D, hD⟩ : ∃ D, D = w.heap.size := ⟨_, rfl⟩
 obtain ⟨W1, hW1⟩ : ∃ W1, (w.alloc (.deferred (some []))).alloc (.loop (rec .ready none)) = W1 := ⟨_, rfl⟩
 have hsz : W1.heap.size = D + 2 := by rw [← hW1, hD]; simp
 have Un : W1.heap[D + 1]? = some (.loop (rec .ready none)) := by
  rw [← hW1, hD]; have := World.alloc_heap_new (w.alloc (.deferred (some []))) (.loop (rec .ready none)); rwa [World.size_alloc] at this
 have UX : W1.heap[D]? = some (.deferred (some [])) := by
  rw [← hW1, hD]; exact (Below.heap_alloc _ _ _ (by simp)).trans (World.alloc_heap_new w _)
 have hI1 : I [] L0 W1 := by rw [← hW1]; exact (hI _).alloc _ ((hI _).alloc _ h0)
 have hb1 : Below w0.heap.size w0 W1 := by
  rw [← hW1]; exact hb0.trans ((((Below.refl _ w).alloc (Nat.le_refl _) _).alloc (by simp) _).mono hb0.size)
 have hb0s := hb0.size
 have Z7 : ∀ {W : World} (l : Nat) (o : Obj), D ≤ l → Below w0.heap.size w0 W → Below w0.heap.size w0 (W.putObj l o) := fun {W} l o hl hb =>
  ⟨hb.os, hb.tape, hb.output, by have := hb.size; simpa using this, fun b hbb => (World.putObj_heap_other (by omega)).trans (hb.block b hbb)⟩
 refine ⟨D + 1, [{ target := .collected D, args := #[] }], W1, { target := .fn (.func gf) lb, args := #[.func (.yield (D + 1)) #[] #[]] }, W1, gf,
  #[.func (.yield (D + 1)) #[] #[]] ++ lb, W1, ?_, ?_, ?_, ?_, fun _ => h1, ?_⟩
 ·rw [← hW1, yK, hD]; exact run_enterLoop_outer _ _ _ _ _
 ·simp only [resolve, hg]
  simp [go_sem]
 ·intro f' hf'; simp [Target.leads] at hf'; subst hf'; exact hFg
 ·simp [invoke, go_sem, eg]
 ·refine (hseq (D + 1) (fun pre L W => I pre L W ∧ W.heap[D + 1]? = some (.loop (rec .ready none)) ∧ W.heap[D]? = some (.deferred (some [])) ∧ ∀ b, L b → b ≠ D ∧ b ≠ D + 1) W1 hb1 (fun b hb => ⟨D5 b hb, by rw [← hW1]; exact (Below.heap_alloc _ _ _ (by have := D5 b hb; simp; omega)).trans (Below.heap_alloc _ _ _ (D5 b hb))⟩) (by rw [hsz, ← hD]; omega) ?_ ?_ ⟨hI1, Un, UX, fun b h => by have := D5 b h; omega⟩).mono ?_
  ·rintro s L L' A B ⟨h1, h2, h3, h4⟩ hs
   have hlt := (Array.getElem?_eq_some_iff.1 h2).1
   refine ⟨hA s L L' A B h1 hs, (hs.block _ hlt fun e => ?_).trans h2, (hs.block _ (by omega) fun e => ?_).trans h3, fun b hb => ?_⟩
   ·have := h4 _ e; omega
   ·have := h4 _ e; omega
   ·rcases hs.more b hb with e | e
    ·exact h4 b e.1
    ·omega
  ·rintro pre x L W ⟨hi, hl, hk, Lt⟩ PR kj hLw hlen
   have hlt : D + 1 < W.heap.size := (Array.getElem?_eq_some_iff.1 hl).1
   have hy := run_yield (P := P) (args := encs x) hl (by rw [yK]; exact hps x)
   rw [yK] at hy
   refine ⟨fn, _, assign, body, hy, roundIn_of_wpIn hfn (hassign _ x W _ ⟨_, run_beginRound hl (by rw [yK]), ?_⟩)⟩
   obtain ⟨W2, hW2⟩ : ∃ W2, W.putObj (D + 1) (.loop { rec .ready none with state := .busy }) = W2 := ⟨_, rfl⟩
   have hl2 : W2.heap[D + 1]? = some (.loop { rec .ready none with state := .busy }) := by rw [← hW2]; exact World.putObj_heap_same hlt
   have hk2 : W2.heap[D]? = some (.deferred (some [])) := by rw [← hW2]; exact (World.putObj_heap_other (by omega)).trans hk
   have hi2 : I pre L W2 := by rw [← hW2]; exact (hI L).putObj _ hi (by omega) hl rfl
   have hg2 : Gv x L W2 := by rw [← hW2]; exact (hGv x L).putObj (s := ()) _ PR (by omega) hl rfl
   have hs2 : W2.heap.size = W.heap.size := by rw [← hW2]; simp
   have ho2 : ∀ b, b ≠ D + 1 → W2.heap[b]? = W.heap[b]? := fun b hb => by rw [← hW2]; exact World.putObj_heap_other (by omega)
   have G6 : Below w0.heap.size w0 W2 := by rw [← hW2]; exact Z7 _ _ (by omega) kj
   rw [hW2]
   refine wpIn_mono (hbody _ pre x L W2 hi2 hg2 G6 (fun b hb => by rw [hs2]; exact hLw b hb) hlen) ?_
   rintro e a3 W3 hp
   cases e with
   | normal =>
    obtain ⟨hk3, hb3, hL3, UU⟩ := hp
    have Eo := hk3.same _ _ (by omega) hl2 rfl
    have hk4 := hk3.same _ _ (by omega) hk2 rfl
    have hend := run_endRound (P := P) none Eo
    rw [yK] at hend
    refine ⟨_, _, hend, rfl, ⟨?_, ?_, ?_, Lt⟩, Z7 _ _ (by omega) hb3, ?_, fun b hb => ?_⟩
    ·exact (hI L).putObj _ UU (by omega) Eo rfl
    ·rw [yK]; exact World.putObj_heap_same (Array.getElem?_eq_some_iff.1 Eo).1
    ·exact (World.putObj_heap_other (by omega)).trans hk4
    ·have := hk3.size; simp; omega
    ·have hne : b ≠ D + 1 := by
      rcases hb with hb | hb
      ·have := Lt b hb; omega
      ·rintro rfl
       obtain ⟨o, h1, h2⟩ := hGb _ _ _ _ PR hb
       rw [hl] at h1; injection h1 with h1; subst h1; cases h2
     exact (World.putObj_heap_other (by omega)).trans ((hL3 b hb).trans (ho2 b (by omega)))
   | ret => exact hp.elim
   | exit id => exact hp.elim
   | goto t => exact hp.elim
   | panic ch => exact hp.elim
   | outgrown => exact hp.elim
  ·rintro e W2 ⟨⟨v, rfl⟩, xs, L, hS, hi, hl, hk, Lt⟩
   exact ⟨none, _, by have := run_endLoop (P := P) hl (by rw [yK]; simp); rw [yK] at this; exact this, hdone D xs L _ (by omega) hS ((hI L).putObj _ hi (by omega) hl rfl) ((World.putObj_heap_other (by omega)).trans hk)⟩
end
section
open Go.RowKit Go.Shelf Go.Deep
attribute [local go_sem] Oper.semAt_some
theorem aC.Vf {base : Nat} {e : TypeId} {w w' : World} {v : Value} {vs : List Value} (h : aC base e w v vs) (k : ∀ b, v.ownBlock = some b → w'.heap[b]? = w.heap[b]?) : aC base e w' v vs := by
 obtain ⟨hl, h | ⟨g, cap, cur, rfl, hg, hc, hr⟩⟩ := h
 ·exact ⟨hl, .inl h⟩
 ·exact ⟨hl, .inr ⟨g, cap, cur, rfl, hg, by rw [k g rfl]; exact hc, hr⟩⟩
theorem aC.Iw {base : Nat} {e : TypeId} {w : World} {v : Value} {vs : List Value} (h : aC base e w v vs) {b : Nat} (hb : v.ownBlock = some b) : ∃ c, w.heap[b]? = some (Obj.cells c e (0, 0)) := by
 obtain ⟨_, ⟨rfl, _⟩ | ⟨g, cap, cur, rfl, _, hc, _⟩⟩ := h
 ·cases hb
 ·injection hb with hb; subst hb; exact ⟨cur, hc⟩

end
section
open Go.RowKit Go.Shelf Go.Deep
end
section
def btR : BT ByteArray → RT
 | .leaf x => .node x []
 | .node a b => .node ByteArray.empty [btR a, btR b]
theorem zv : ∀ r : BT ByteArray, aH (btR r) + 1 = 2 * r.bM.length
 | .leaf x => by simp [btR, BT.bM, aH, sizeRs]
 | .node a b => by
  have h1 := zv a
  have h2 := zv b
  simp only [btR, BT.bM, aH, sizeRs, List.length_append]
  omega
theorem Di : ∀ r : BT ByteArray, (∀ x ∈ r.bM, x.size ≠ 0) → cg (btR r) = r.bM
 | .leaf x, h => B7 (h x (by simp [BT.bM]))
 | .node a b, h => by
  rw [btR, jJ rfl, List.flatMap_cons, List.flatMap_cons, List.flatMap_nil, List.append_nil, BT.bM]
  rw [Di a fun x hx => h x (by rw [BT.bM]; exact List.mem_append_left _ hx), Di b fun x hx => h x (by rw [BT.bM]; exact List.mem_append_right _ hx)]
theorem Dj : ∀ r : BT ByteArray, (∀ x ∈ r.bM, aY x.data.toList = true) → ∀ s ∈ subR (btR r), G7 s
 | .leaf x, h, s, hs => by
  rw [btR, subR, subRs, List.mem_singleton] at hs
  subst hs
  exact ⟨fun e => absurd rfl e, fun _ => h x (by simp [BT.bM]), by simp [RT.kids]⟩
 | .node a b, h, s, hs => by
  rw [btR, subR, subRs, subRs, subRs, List.append_nil, List.mem_cons, List.mem_append] at hs
  rcases hs with rfl | hs | hs
  ·exact ⟨fun _ => rfl, (fun e => by cases e), by simp [RT.kids]⟩
  ·exact Dj a (fun x hx => h x (by rw [BT.bM]; exact List.mem_append_left _ hx)) s hs
  ·exact Dj b (fun x hx => h x (by rw [BT.bM]; exact List.mem_append_right _ hx)) s hs
structure nW (r : BT ByteArray) : Prop where
 nd : r.bM.Nodup
 nm : ∀ x ∈ r.bM, aY x.data.toList = true
theorem nW.sz {r : BT ByteArray} (h : nW r) : ∀ x ∈ r.bM, x.size ≠ 0 := fun x hx => fL (h.nm x hx)
theorem nW.leaf {r : BT ByteArray} (h : nW r) : cg (btR r) = r.bM := Di r h.sz
theorem nW.Lu {r : BT ByteArray} (h : nW r) : yt (btR r) := ⟨by rw [h.leaf]; exact h.nd, Dj r h.nm⟩
theorem Vg (a b : BT ByteArray) : txR (btR (.node a b)) = 40 :: (txR (btR a) ++ (44 :: txR (btR b)) ++ [41]) := by
 rw [btR, txR, txRs, txRs, List.append_nil]
def bJ (r : RT) : List UInt8 := txR r ++ [59]
def insT (a : RT) : List RT → List RT
 | [] => [a]
 | b :: l => if Lib.compareBytes (bJ b) (bJ a) ≤ 0 then b :: insT a l else a :: b :: l
def M4 : List RT → List RT
 | [] => []
 | a :: l => insT a (M4 l)
theorem yL (a : RT) : ∀ l, (insT a l).Perm (a :: l)
 | [] => List.Perm.refl _
 | b :: l => by
  rw [insT]
  split
  ·exact ((yL a l).cons b).trans (List.Perm.swap a b l)
  ·exact List.Perm.refl _
theorem jw : ∀ l, (M4 l).Perm l
 | [] => List.Perm.refl _
 | a :: l => (yL a _).trans ((jw l).cons a)
def eV (a b : RT) : Prop := Lib.compareBytes (bJ a) (bJ b) ≤ 0
theorem eV.trans {a b c : RT} (h1 : eV a b) (h2 : eV b c) : eV a c := by
 unfold eV at *
 rw [Lr] at *
 exact Std.le_trans h1 h2
theorem eV.total {a b : RT} (h : ¬ eV a b) : eV b a := by
 unfold eV at *
 rw [kN]; omega
theorem Ae (a : RT) : ∀ l : List RT, l.Pairwise eV → (insT a l).Pairwise eV
 | [], _ => by simp [insT]
 | b :: l, h => by
  rw [insT]
  obtain ⟨h1, h2⟩ := List.pairwise_cons.1 h
  split
  ·rename_i hb
   refine List.pairwise_cons.2 ⟨fun c hc => ?_, Ae a l h2⟩
   rcases List.mem_cons.1 ((yL a l).mem_iff.1 hc) with rfl | hc
   ·exact hb
   ·exact h1 c hc
  ·rename_i hb
   have hab : eV a b := eV.total hb
   refine List.pairwise_cons.2 ⟨fun c hc => ?_, h⟩
   rcases List.mem_cons.1 hc with rfl | hc
   ·exact hab
   ·exact hab.trans (h1 c hc)
theorem pM : ∀ l : List RT, (M4 l).Pairwise eV
 | [] => List.Pairwise.nil
 | a :: l => Ae a _ (pM l)
theorem eV.anti {a b : RT} (ha : kG a) (hb : kG b) (h1 : eV a b) (h2 : eV b a) : a = b := by
 unfold eV at *
 have h3 := kN (bJ a) (bJ b)
 have h4 : bJ a = bJ b := oC (by omega)
 exact PA ha hb (List.append_cancel_right h4)
theorem wk : ∀ {l m : List RT}, l.Perm m → l.Pairwise eV → m.Pairwise eV → (∀ r ∈ l, kG r) → l = m
 | [], m, h, _, _, _ => (List.nil_perm.1 h).symm
 | a :: l, [], h, _, _, _ => absurd (List.perm_nil.1 h) (by simp)
 | a :: l, b :: m, h, h1, h2, ho => by
  obtain ⟨a1, a2⟩ := List.pairwise_cons.1 h1
  obtain ⟨b1, b2⟩ := List.pairwise_cons.1 h2
  have e : a = b := by
   have hb : b ∈ a :: l := h.mem_iff.2 (by simp)
   have ha : a ∈ b :: m := h.mem_iff.1 (by simp)
   rcases List.mem_cons.1 hb with hb' | hb'
   ·exact hb'.symm
   rcases List.mem_cons.1 ha with ha' | ha'
   ·exact ha'
   exact eV.anti (ho a (by simp)) (ho b hb) (a1 b hb') (b1 a ha')
  subst e
  rw [wk ((List.perm_cons a).1 h) a2 b2 fun r hr => ho r (by simp [hr])]
def uB (names : List ByteArray) (r : BT ByteArray) : BT ByteArray := .node (.leaf (gs names 0)) r
def uR (names : List ByteArray) (r : BT ByteArray) : RT := sortR (btR (uB names r))
def aM (names : List ByteArray) : List RT := M4 ((rt names.length names.tail).map (uR names))
def allT (names : List ByteArray) : List ay := (aM names).map flat
structure cH (names : List ByteArray) : Prop where
 lo : 2 ≤ names.length
 hi : names.length ≤ 5
 nm : ∀ x ∈ names, aY x.data.toList = true
 nd : names.Nodup
theorem cH.cons {names : List ByteArray} (h : cH names) : gs names 0 :: names.tail = names := by
 have := h.lo
 cases names with
 | nil => simp at this
 | cons a l => rfl
theorem uT {names : List ByteArray} (h : cH names) {r : BT ByteArray} (hr : r.bM.Perm names.tail) : (uB names r).bM.Perm names := by
 have h1 : (uB names r).bM = gs names 0 :: r.bM := rfl
 rw [h1]
 exact (hr.cons _).trans (List.Perm.of_eq h.cons)
theorem M5 {names : List ByteArray} (h : cH names) {r : BT ByteArray} (hr : r.bM.Perm names.tail) : nW (uB names r) :=
 ⟨(uT h hr).symm.nodup h.nd, fun x hx => h.nm x ((uT h hr).mem_iff.1 hx)⟩
theorem sw {names : List ByteArray} {q : RT} : q ∈ aM names ↔ ∃ r ∈ rt names.length names.tail, uR names r = q := by
 unfold aM
 rw [(jw _).mem_iff, List.mem_map]
theorem SQ (names : List ByteArray) : (aM names).length = (rt names.length names.tail).length := by
 unfold aM
 rw [(jw _).length_eq, List.length_map]
theorem cH.Dk {names : List ByteArray} (h : cH names) : names.tail.Nodup := by
 have := h.nd
 rw [← h.cons] at this
 exact (List.nodup_cons.1 this).2
theorem cQ {names : List ByteArray} (h : cH names) {q : RT} (hq : q ∈ aM names) : yt q ∧ (cg q).Perm names ∧ aH q + 1 = 2 * names.length ∧ sortR q = q ∧ az (flat q) = 0 ∧ qp (flat q) = flat q := by
 obtain ⟨r, hr, rfl⟩ := sw.1 hq
 have hl := jm _ _ _ hr
 have ho := M5 h hl
 have hs := zv (uB names r)
 have hpl := (uT h hl).length_eq
 have hhi := h.hi
 have hz : aH (uR names r) + 1 = 2 * names.length := by unfold uR; rw [Mz]; omega
 have hg : fK (uR names r) := ho.Lu.good.sort
 have h2 : sortR (uR names r) = uR names r := vL _
 have ht := x9 hg (by omega)
 refine ⟨⟨(qP _).symm.nodup ho.Lu.nd, fun s hs => ?_⟩, ?_, hz, h2, ht, by rw [x8 ht, kS, h2]⟩
 ·obtain ⟨u, hu, rfl⟩ := List.mem_map.1 ((jt _).mem_iff.1 hs)
  obtain ⟨p1, p2, p3⟩ := ho.Lu.pt u hu
  rw [G7, lJ, oK, (iO _).length_eq, List.length_map]
  exact ⟨fun hk => p1 fun e => hk (jE.2 e), fun hk => p2 (jE.1 hk), p3⟩
 ·refine (qP _).trans ?_
  rw [ho.leaf]
  exact uT h hl
theorem lN {names : List ByteArray} (h : cH names) : (aM names).length = if names.length = 2 then 1 else if names.length = 3 then 1 else if names.length = 4 then 3 else 15 := by
 rw [SQ]
 have hlo := h.lo
 have hhi := h.hi
 have e : names.tail = ((List.range' 1 (names.length - 1)).map fun i => gs names i) := by
  apply List.ext_getElem
  ·simp
  ·intro i h1 h2
   simp at h1
   simp [gs]
   rw [List.getElem?_eq_getElem (by omega)]
   simp [Nat.add_comm]
 rw [e, Cc, List.length_map]
 generalize names.length = n at *
 obtain rfl | rfl | rfl | rfl : n = 2 ∨ n = 3 ∨ n = 4 ∨ n = 5 := by omega
 ·decide +kernel
 ·decide +kernel
 ·decide +kernel
 ·decide +kernel
end
section
open Go.RowKit Go.Shelf Go.Deep Go.Sort
abbrev El := Nat × Value
section
variable (w0 : World) (t : ay) (names : List ByteArray) (l Bt Be Bn Bq N : Nat) (J : List El → (Nat → Prop) → World → Prop)
variable {w0 t names l Bt Be Bn Bq N J}
theorem Iy (W : World) (base : Nat) (e : TypeId) (u : Value) (h : base ≤ W.heap.size) : aC base e (W.alloc (.cells #[u] e)) (.slice (some ⟨W.heap.size, 0, none⟩) 1 1) [u] :=
 ⟨rfl, .inr ⟨W.heap.size, 1, #[u], rfl, h, blk_alloc_new W _, Nat.le_refl _, by decide, rfl, rfl⟩⟩
end
end
section
def Iz (a b : Nat) : Int := if a = b then 0 else 1
def lQ (n a : Nat) : List Int := (List.range n).map (Iz a)
def bE (n : Nat) : List (List Int) := (List.range n).map (lQ n)
theorem tZ (n a : Nat) : (lQ n a).length = n := by simp [lQ]
theorem jx (n : Nat) : (bE n).length = n := by simp [bE]
theorem Ce {n a b : Nat} (h : b < n) : gi (lQ n a) b = Iz a b := by simp [gi, lQ, h]
theorem IA {n a : Nat} (h : a < n) : gl (bE n) a = lQ n a := by simp [gl, bE, h]
end
section
theorem iR {α β : Type} {f g : α → List β} : ∀ {l : List α}, (∀ a ∈ l, f a = g a) → l.flatMap f = l.flatMap g
 | [], _ => rfl
 | a :: l, h => by
  rw [List.flatMap_cons, List.flatMap_cons, h a (by simp), iR fun b hb => h b (by simp [hb])]
theorem ER {α : Type} [Inhabited α] (L : List α) {bits : Nat} (h1 : 1 ≤ bits) (h2 : bits < 2 ^ L.length) : 1 ≤ (aW (fun i => bits.testBit i) L L.length).length ∧ (aW (fun i => bits.testBit i) L L.length).length + (aW (fun i => !bits.testBit i) L L.length).length = L.length := by
 have h3 := (jW (fun i => bits.testBit i) L (n := L.length) (Nat.le_refl _)).length_eq
 rw [List.length_append, List.length_take] at h3
 refine ⟨?_, by omega⟩
 rcases Nat.eq_zero_or_pos (aW (fun i => bits.testBit i) L L.length).length with e | e
 ·exfalso
  have h5 : aW (fun i => bits.testBit i) L L.length = [] := List.eq_nil_of_length_eq_zero e
  have hz : bits = 0 := Nat.eq_of_testBit_eq fun i => by
   rw [Nat.zero_testBit]
   by_cases hi : i < L.length
   ·cases hb : bits.testBit i
    ·rfl
    ·have : L.getD i default ∈ aW (fun i => bits.testBit i) L L.length := fR.2 ⟨i, hi, hb, rfl⟩
     rw [h5] at this; cases this
   ·exact Nat.testBit_lt_two_pow (Nat.lt_of_lt_of_le h2 (Nat.pow_le_pow_right (by decide) (by omega)))
  omega
 ·exact e
theorem oW {α : Type} [Inhabited α] : ∀ (d e : Nat) (L : List α), L.length ≤ d → L.length ≤ e → rt d L = rt e L
 | 0, e, L, h, _ => by
  have : L = [] := List.eq_nil_of_length_eq_zero (by omega)
  subst this
  cases e <;> rfl
 | d + 1, 0, L, _, h => by
  have : L = [] := List.eq_nil_of_length_eq_zero (by omega)
  subst this; rfl
 | _ + 1, _ + 1, [], _, _ => rfl
 | _ + 1, _ + 1, [x], _, _ => rfl
 | d + 1, e + 1, x :: y :: L, h1, h2 => by
  rw [rt, rt]
  refine iR fun bits hb => ?_
  rw [List.mem_range'_1] at hb
  obtain ⟨p1, p2⟩ := ER (y :: L) (bits := bits) hb.1 (by omega)
  have hl : (y :: L).length = L.length + 1 := rfl
  rw [List.length_cons, hl] at h1 h2
  rw [oW d e (x :: _) (by rw [List.length_cons]; omega) (by rw [List.length_cons]; omega), oW d e (aW _ _ _) (by omega) (by omega)]
def dA (L : List ByteArray) (bits : Nat) : List ByteArray := gs L 0 :: aW (fun i => !bits.testBit i) L.tail (L.length - 1)
def dB (L : List ByteArray) (bits : Nat) : List ByteArray := aW (fun i => bits.testBit i) L.tail (L.length - 1)
def jU (L : List ByteArray) : List (BT ByteArray) := rt L.length L
def iW (r : BT ByteArray) : ByteArray := ⟨(txR (btR r)).toArray⟩
def bD (L : List ByteArray) : List ByteArray := (jU L).map iW
def pairT (s t : ByteArray) : ByteArray := ⟨#[40]⟩ ++ s ++ ⟨#[44]⟩ ++ t ++ ⟨#[41]⟩
def Cf (L : List ByteArray) (bits : Nat) : List ByteArray := (bD (dA L bits)).flatMap fun s => (bD (dB L bits)).map fun t => pairT s t
theorem A3 (x : ByteArray) : iW (.leaf x) = x := by
 unfold iW
 rw [btR, wj]
theorem A4 (a b : BT ByteArray) : iW (.node a b) = pairT (iW a) (iW b) := by
 unfold pairT
 apply eL
 unfold iW
 rw [Vg]
 simp
theorem M6 {L : List ByteArray} (h : 2 ≤ L.length) {bits : Nat} (h1 : 1 ≤ bits) (h2 : bits < 2 ^ (L.length - 1)) : (dA L bits).length < L.length ∧ 1 ≤ (dA L bits).length ∧ (dB L bits).length < L.length ∧ 1 ≤ (dB L bits).length := by
 have hl : L.tail.length = L.length - 1 := by simp
 obtain ⟨p1, p2⟩ := ER L.tail (bits := bits) h1 (by rw [hl]; exact h2)
 unfold dA dB
 rw [List.length_cons, ← hl]
 omega
theorem Wh (x : ByteArray) : bD [x] = [x] := by
 unfold bD jU
 rw [List.length_singleton, rt, List.map_singleton, A3]
theorem Z8 {L : List ByteArray} (h : 2 ≤ L.length) : bD L = (List.range' 1 (2 ^ (L.length - 1) - 1)).flatMap (Cf L) := by
 obtain ⟨x, y, L, rfl⟩ : ∃ x y L', L = x :: y :: L' := by
  cases L with
  | nil => simp at h
  | cons x L =>
   cases L with
   | nil => simp at h
   | cons y L => exact ⟨x, y, L, rfl⟩
 unfold bD jU
 have e1 : (x :: y :: L).length = (y :: L).length + 1 := rfl
 rw [e1, rt, List.map_flatMap, Nat.add_sub_cancel]
 refine iR fun bits hb => ?_
 rw [List.mem_range'_1] at hb
 have hd := M6 (L := x :: y :: L) h (bits := bits) hb.1 (by have : (x :: y :: L).length - 1 = (y :: L).length := rfl; rw [this]; omega)
 unfold Cf bD
 rw [List.map_flatMap, List.flatMap_map]
 have ea : dA (x :: y :: L) bits = x :: aW (fun i => !bits.testBit i) (y :: L) (y :: L).length := rfl
 have eb : dB (x :: y :: L) bits = aW (fun i => bits.testBit i) (y :: L) (y :: L).length := rfl
 rw [← ea, ← eb]
 have f1 : rt (y :: L).length (dA (x :: y :: L) bits) = jU (dA (x :: y :: L) bits) := oW _ _ _ (by simp only [List.length_cons] at hd ⊢; omega) (Nat.le_refl _)
 have f2 : rt (y :: L).length (dB (x :: y :: L) bits) = jU (dB (x :: y :: L) bits) := oW _ _ _ (by simp only [List.length_cons] at hd ⊢; omega) (Nat.le_refl _)
 rw [f1, f2]
 refine iR fun a _ => ?_
 rw [List.map_map, List.map_map]
 refine List.map_congr_left fun b _ => ?_
 exact A4 a b
theorem IB {L : List ByteArray} : ∀ {n : Nat}, L.length = n → n ≤ 4 → (jU L).length = if n = 0 then 0 else if n = 1 then 1 else if n = 2 then 1 else if n = 3 then 3 else 15 := by
 intro n hn h4
 have e : L = ((List.range n).map fun i => gs L i) := by
  apply List.ext_getElem
  ·simp [hn]
  ·intro i h1 h2
   simp [gs, h1]
 unfold jU
 rw [hn]
 have e2 : rt n L = (rt n (List.range n)).map (BT.map fun i => gs L i) := by
  rw [← Cc]
  exact congrArg (rt n) e
 rw [e2, List.length_map]
 obtain rfl | rfl | rfl | rfl | rfl : n = 0 ∨ n = 1 ∨ n = 2 ∨ n = 3 ∨ n = 4 := by omega
 ·decide +kernel
 ·decide +kernel
 ·decide +kernel
 ·decide +kernel
 ·decide +kernel
theorem ry {L : List ByteArray} (h : L.length ≤ 4) : (bD L).length ≤ 15 := by
 unfold bD
 rw [List.length_map, IB rfl h]
 split <;> (try split) <;> (try split) <;> (try split) <;> omega
theorem Wi {L : List ByteArray} (h : L.length ≤ 4) (h1 : 1 ≤ L.length) : 1 ≤ (bD L).length := by
 unfold bD
 rw [List.length_map, IB rfl h]
 split <;> (try split) <;> (try split) <;> (try split) <;> omega
theorem mI {α β : Type} {f : α → List β} {K : Nat} : ∀ l : List α, (∀ a ∈ l, (f a).length ≤ K) → (l.flatMap f).length ≤ l.length * K
 | [], _ => by simp
 | a :: l, h => by
  rw [List.flatMap_cons, List.length_append, List.length_cons, Nat.succ_mul]
  have h1 := h a (by simp)
  have h2 := mI l fun b hb => h b (by simp [hb])
  omega
theorem Wj {L : List ByteArray} {bits : Nat} (ha : (dA L bits).length ≤ 4) (hb : (dB L bits).length ≤ 4) : (Cf L bits).length ≤ 225 := by
 unfold Cf
 have h1 := ry ha
 have h2 := ry hb
 have h3 := mI (f := fun s => (bD (dB L bits)).map fun t => pairT s t) (K := 15) (bD (dA L bits)) fun s _ => by rw [List.length_map]; exact h2
 have h4 : (bD (dA L bits)).length * 15 ≤ 15 * 15 := Nat.mul_le_mul_right _ h1
 omega
theorem M7 {L : List ByteArray} {bits : Nat} (h : 1 ≤ L.length) : (∀ x ∈ dA L bits, x ∈ L) ∧ ∀ x ∈ dB L bits, x ∈ L := by
 have hp : ∀ p : Nat → Bool, ∀ x ∈ aW p L.tail (L.length - 1), x ∈ L := fun p x hx => by
  obtain ⟨i, hi, _, rfl⟩ := fR.1 hx
  have hl : i < L.tail.length := by simp; omega
  rw [List.getD_eq_getElem?_getD, List.getElem?_eq_getElem hl]
  exact List.mem_of_mem_tail (List.getElem_mem hl)
 refine ⟨fun x hx => ?_, hp _⟩
 rcases List.mem_cons.1 hx with rfl | hx
 ·cases L with
  | nil => simp at h
  | cons a l => simp [gs]
 ·exact hp _ x hx
theorem M8 (s t : ByteArray) : (pairT s t).size = s.size + t.size + 3 := by
 unfold pairT
 simp only [ByteArray.size_append]
 show 1 + s.size + 1 + t.size + 1 = _
 omega
theorem wm : ∀ r : BT ByteArray, (∀ x ∈ r.bM, x.size ≤ 20) → (iW r).size + 3 ≤ 23 * r.bM.length
 | .leaf x, h => by
  rw [A3]
  have := h x (by simp [BT.bM])
  simp only [BT.bM, List.length_singleton]
  omega
 | .node a b, h => by
  have h1 := wm a fun x hx => h x (List.mem_append_left _ hx)
  have h2 := wm b fun x hx => h x (List.mem_append_right _ hx)
  rw [A4, M8]
  simp only [BT.bM, List.length_append]
  omega
theorem wu {L : List ByteArray} (h : L.length ≤ 4) (hz : ∀ x ∈ L, x.size ≤ 20) {s : ByteArray} (hs : s ∈ bD L) : s.size ≤ 100 := by
 obtain ⟨r, hr, rfl⟩ := List.mem_map.1 hs
 have hp := jm _ _ _ hr
 have h1 := wm r fun x hx => hz x (hp.mem_iff.1 hx)
 have h2 := hp.length_eq
 omega
theorem gI {L : List ByteArray} {M : Nat} (hz : ∀ x ∈ L, x.size ≤ M) (k : Nat) : (gs L k).size ≤ M := by
 by_cases hk : k < L.length
 ·have : gs L k = L[k] := by simp [gs, hk]
  rw [this]; exact hz _ (List.getElem_mem hk)
 ·have : gs L k = ByteArray.empty := by simp [gs, hk]
  rw [this]; exact Nat.zero_le _
end
section
open Go Go.RowKit Go.Deep
theorem qu {F : Fence} {nF : Nat} {P : Program} {ops : Array Oper} {rest : List Oper} {o : Oper} {a : Act} {Q : Exit → Act → World → Prop} (W : World) (hgd : o.guard = none) (s x : Operand) (t : TypeId) (ho : o.op = .call { callee := .builtin .append, args := #[s, x], argTypes := #[t, t] })
  (base : Nat) (e : TypeId) (z : Value) (bytes : Nat) (ht : P.underlying t = some (.slice e)) (hinfo : (P.info? e).map (fun i => (i.zero, i.size, i.bytes)) = some (some z, 1, bytes))
  (hz1 : z.cells.size = 1) (mg : bytes ≤ 64) {v : Value} {vs : List Value} (hown : aC base e W v vs) (hs : a.eval s = v) (u : Value)
  (hx : a.eval x = .slice (some ⟨W.heap.size, 0, none⟩) 1 1) (h1 : u.oneCell' = true) (k : Nat) (zN : vs.length = k) (hn : k ≤ 1000000) (hbase : base ≤ W.heap.size)
  (h : ∀ g cap w', aC base e w' (.slice (some ⟨g, 0, none⟩) (k + 1) cap) (vs ++ [u]) → W.grownBy w' v.ownBlock → (v.ownBlock = some g ∨ W.heap.size ≤ g) → wpListIn F nF P ops Q rest (a.put o.dst (.slice (some ⟨g, 0, none⟩) (k + 1) cap)) w') :
  wpListIn F nF P ops Q (o :: rest) a (W.alloc (.cells #[u] e)) := by
 subst zN
 obtain ⟨i, hi, hzz⟩ := Option.map_eq_some_iff.1 hinfo
 simp only [Prod.mk.injEq] at hzz
 obtain ⟨hz, hs1, hb⟩ := hzz
 refine wpListIn_plain hgd fun K hK' => ?_
 obtain ⟨g, cap, w', hr, h2, h3, h4, h5⟩ := run_append_lies (P := P) (W.alloc (.cells #[u] e)) t o.type base e i z 1 bytes ht hi hz hs1 hb hz1 (by omega) v vs.length vs (hown.alloc _) ⟨W.heap.size, 0, none⟩ 1 1 [u] rfl (cell_one_new _ _ _) (by simpa using h1) (by omega)
  (by unfold maxLen; omega) (by have : (vs.length + 1) * bytes ≤ (vs.length + 1) * 64 := Nat.mul_le_mul_left _ mg; omega) (by simp; omega) _ rfl
 unfold Oper.wpIn
 refine ⟨by simp [Oper.about, ho, resolve, Target.leads, Sem.run_pure], ?_⟩
 rw [Oper.semAt_plain F _ _ (by rw [ho]; intro c hc'; cases hc')]
 simp [execOp, ho, resolve, invoke, builtin, hs, hx, hr, Result.andThen]
 exact hK' _ _ (h g cap w' (by unfold aC; rw [List.length_append]; exact h2) (iK h3) (h4.imp id fun e => by rw [e, World.size_alloc]; omega))
end
section
open Go.RowKit Go.Deep Go.Shelf
theorem aB.grown {S : Nat → Prop} {X Y : World} {v : Value} {n : Nat} {f : Nat → Value} {row : Option Nat} (h : aB S X v n f) (hg : X.grownBy Y row) (hr : ∀ r, row = some r → ∃ o, X.heap[r]? = some o ∧ o.isCells = false) : aB S Y v n f := by
 obtain ⟨p, cap, rfl, hn, h⟩ := h
 refine ⟨p, cap, rfl, hn, ?_⟩
 by_cases h0 : n = 0
 ·exact .inl h0
 ·rcases h with h | ⟨g, off, rfl, hS, hc⟩
  ·exact absurd h h0
  ·refine .inr ⟨g, off, rfl, hS, fun k hk => ?_⟩
   have h1 := hc k hk
   have hl := World.block_lt_of_cell? X _ h1
   refine (World.cell?_of_block (a := ⟨g, off + k, none⟩) (hg.block g hl fun e => ?_)).trans h1
   obtain ⟨o, h2, h3⟩ := hr g e.symm
   simp only [World.cell?] at h1
   rw [h2] at h1
   cases o <;> simp [Obj.isCells] at h3 <;> simp at h1
end
end Go.Proofs.YthgabkgmkolobaaGreat
