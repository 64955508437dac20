/- A range over a function whose iterator owns blocks: between two yields it may write what it owns; what it yields it gives away. Nodes in the order in which split.below yields them; the places below a node out of those below its children: plain. -/
import Derived.RangeFuncWrites
import Derived.Test.YtpjijbophjdgaaaGreatQ3
import Derived.Test.YtpjijbophjdgaaaGreatQ38
import Derived.Test.YtpjijbophjdgaaaGreatQ30
namespace Go.Proofs.YtpjijbophjdgaaaGreat
open Go Go.RowKit Go.Deep
structure OwnStep (L L' : Nat → Prop) (W W' : World) : Prop where
  os : W'.os = W.os
  tape : W'.tape = W.tape
  output : W'.output = W.output
  size : W.heap.size ≤ W'.heap.size
  block : ∀ b, b < W.heap.size → ¬ L b → W'.heap[b]? = W.heap[b]?
  more : ∀ b, L' b → (L b ∧ b < W.heap.size) ∨ (W.heap.size ≤ b ∧ b < W'.heap.size)
def AbL {α : Type} (J : List α → (Nat → Prop) → World → Prop) : Prop := ∀ s L L' W W', J s L W → OwnStep L L' W W' → J s L' W'
def SeqL {α : Type} (F : Fence) (n : Nat) (P : Program) (g : Nat) (lb : Array Value) (encs : α → Array Value) (Gv : α → (Nat → Prop) → World → Prop) (Gb : α → Nat → Prop) (S : List α → Prop) (N : Nat) (w w9 : World) (L0 : Nat → Prop) : Prop :=
  ∀ (l : Nat) (J : List α → (Nat → Prop) → World → Prop) (W : World), Below w.heap.size w W → (∀ b, L0 b → b < w9.heap.size ∧ W.heap[b]? = w9.heap[b]?) → w9.heap.size ≤ W.heap.size → AbL J →
    (∀ pre x L W1, J pre L W1 → Gv x L W1 → Below w.heap.size w W1 → (∀ b, L b → w.heap.size ≤ b ∧ b < W1.heap.size) → pre.length < N → YieldAt F (n - 1) P l (encs x) W1 fun e W' =>
      e = .returned (.bool true) ∧ J (pre ++ [x]) L W' ∧ Below w.heap.size w W' ∧ W1.heap.size ≤ W'.heap.size ∧ ∀ b, (L b ∨ Gb x b) → W'.heap[b]? = W1.heap[b]?) →
    J [] L0 W →
    CallsIn F n P g (#[.func (.yield l) #[] #[]] ++ lb) W fun e W' => (∃ v, e = .returned v) ∧ ∃ xs L, S xs ∧ J xs L W'
def ownPostL {α : Type} (B : Nat) (w0 : World) (I : List α → (Nat → Prop) → World → Prop) (xs : List α) (L Lk : Nat → Prop) (W : World) : Exit → Act → World → Prop
  | .normal, _, W' => KeepsFrom B W W' ∧ Below w0.heap.size w0 W' ∧ (∀ b, Lk b → W'.heap[b]? = W.heap[b]?) ∧ I xs L W'
  | _, _, _ => False
theorem wpIn_rangeL {α : Type} {F : Fence} {n : Nat} {P : Program} {w : World} {g : Operand} {ps : Array Tmp} {assign body : Code} {Q : Exit → Act → World → Prop} {a : Act}
    (hro : F.round = none) (h1 : 1 ≤ n) {gf : Nat} {lb : Array Value} (hg : a.eval g = .func (.func gf) #[] lb) (hFg : F.fn gf) (eg : ∀ args w, (callFunc gf args).run P w = .ok (.enter gf args) w)
    {encs : α → Array Value} {Gv : α → (Nat → Prop) → World → Prop} {Gb : α → Nat → Prop} {S : List α → Prop} {N : Nat} {w0 : World} {L0 : Nat → Prop} (hseq : SeqL F (n - 1) P gf lb encs Gv Gb S N w0 w L0) (hL0 : ∀ b, L0 b → b < w.heap.size) (hGb : ∀ x L W b, Gv x L W → Gb x b → ∃ o, W.heap[b]? = some o ∧ o.isCells = true) (hb0 : Below w0.heap.size w0 w) (hps : ∀ x, (encs x).size = ps.size)
    (hGv : ∀ x L, OwnFrom w.heap.size (fun (_ : Unit) W => Gv x L W))
    (I : List α → (Nat → Prop) → World → Prop) (hA : AbL I) (hI : ∀ L, OwnFrom w.heap.size (fun s W => I s L W)) (h0 : I [] L0 w) (a₁ : α → Act)
    (hassign : ∀ (l : Nat) (x : α) (W : World) (K : Act → World → Prop), K (a₁ x) W →
      assign.wpIn (F.inRound l) (n - 1 - 1) P (Exit.then K (fun _ _ _ => False)) { tmps := (ps.zip (encs x)).foldl (fun t (p, v) => t.setIfInBounds p v) a.tmps, defers := [] } W)
    (hbody : ∀ (l : Nat) (pre : List α) (x : α) (L : Nat → Prop) (W : World), I pre L W → Gv x L W → Below w0.heap.size w0 W → (∀ b, L b → w0.heap.size ≤ b ∧ b < W.heap.size) → pre.length < N → body.wpIn (F.inRound l) (n - 1 - 1) P (ownPostL w.heap.size w0 I (pre ++ [x]) L (fun b => L b ∨ Gb x b) W) (a₁ x) W)
    (hdone : ∀ (D : Nat) (xs : List α) (L : Nat → Prop) (W : World), w.heap.size ≤ D → S xs → I xs L W → W.heap[D]? = some (.deferred (some [])) → Q .normal { a with defers := { target := .collected D, args := #[] } :: a.defers } W) :
    (Code.rangeFunc g ps assign body).wpIn F n P Q a w := by
  refine wpIn_rangeFunc ?_
  intro fn hfn
  rw [hro]
  obtain ⟨rec, hrec⟩ : ∃ rec : LoopState → Option Code → Loop, rec = fun st pe => { state := st, pending := pe, fn, tmps := a.tmps, params := ps, assign, body, defers := w.heap.size } := ⟨_, rfl⟩
  obtain ⟨D, hD⟩ : ∃ D, D = w.heap.size := ⟨_, rfl⟩
  obtain ⟨W1, hW1⟩ : ∃ W1, (w.alloc (.deferred (some []))).alloc (.loop (rec .ready none)) = W1 := ⟨_, rfl⟩
  have hsz : W1.heap.size = D + 2 := by rw [← hW1, hD]; simp
  have hL1 : W1.heap[D + 1]? = some (.loop (rec .ready none)) := by
    rw [← hW1, hD]; have := World.alloc_heap_new (w.alloc (.deferred (some []))) (.loop (rec .ready none)); rwa [World.size_alloc] at this
  have hK1 : W1.heap[D]? = some (.deferred (some [])) := by
    rw [← hW1, hD]; exact (Below.heap_alloc _ _ _ (by simp)).trans (World.alloc_heap_new w _)
  have hI1 : I [] L0 W1 := by rw [← hW1]; exact (hI _).alloc _ ((hI _).alloc _ h0)
  have hb1 : Below w0.heap.size w0 W1 := by
    rw [← hW1]; exact hb0.trans ((((Below.refl _ w).alloc (Nat.le_refl _) _).alloc (by simp) _).mono hb0.size)
  have hb0s := hb0.size
  have putB : ∀ {W : World} (l : Nat) (o : Obj), D ≤ l → Below w0.heap.size w0 W → Below w0.heap.size w0 (W.putObj l o) := fun {W} l o hl hb =>
    ⟨hb.os, hb.tape, hb.output, by have := hb.size; simpa using this, fun b hbb => (World.putObj_heap_other (by omega)).trans (hb.block b hbb)⟩
  refine ⟨D + 1, [{ target := .collected D, args := #[] }], W1, { target := .fn (.func gf) lb, args := #[.func (.yield (D + 1)) #[] #[]] }, W1, gf,
    #[.func (.yield (D + 1)) #[] #[]] ++ lb, W1, ?_, ?_, ?_, ?_, fun _ => h1, ?_⟩
  · rw [← hW1, hrec, hD]; exact run_enterLoop_outer _ _ _ _ _
  · simp only [resolve, hg]
    simp [go_sem]
  · intro f' hf'; simp [Target.leads] at hf'; subst hf'; exact hFg
  · simp [invoke, go_sem, eg]
  · refine (hseq (D + 1) (fun pre L W => I pre L W ∧ W.heap[D + 1]? = some (.loop (rec .ready none)) ∧ W.heap[D]? = some (.deferred (some [])) ∧ ∀ b, L b → b ≠ D ∧ b ≠ D + 1) W1 hb1 (fun b hb => ⟨hL0 b hb, by rw [← hW1]; exact (Below.heap_alloc _ _ _ (by have := hL0 b hb; simp; omega)).trans (Below.heap_alloc _ _ _ (hL0 b hb))⟩) (by rw [hsz, ← hD]; omega) ?_ ?_ ⟨hI1, hL1, hK1, fun b h => by have := hL0 b h; omega⟩).mono ?_
    · rintro s L L' A B ⟨h1, h2, h3, h4⟩ hs
      have hlt := (Array.getElem?_eq_some_iff.1 h2).1
      refine ⟨hA s L L' A B h1 hs, (hs.block _ hlt fun e => ?_).trans h2, (hs.block _ (by omega) fun e => ?_).trans h3, fun b hb => ?_⟩
      · have := h4 _ e; omega
      · have := h4 _ e; omega
      · rcases hs.more b hb with e | e
        · exact h4 b e.1
        · omega
    · rintro pre x L W ⟨hi, hl, hk, hLb⟩ hgv hbw hLw hlen
      have hlt : D + 1 < W.heap.size := (Array.getElem?_eq_some_iff.1 hl).1
      have hy := run_yield (P := P) (args := encs x) hl (by rw [hrec]; exact hps x)
      rw [hrec] at hy
      refine ⟨fn, _, assign, body, hy, roundIn_of_wpIn hfn (hassign _ x W _ ⟨_, run_beginRound hl (by rw [hrec]), ?_⟩)⟩
      obtain ⟨W2, hW2⟩ : ∃ W2, W.putObj (D + 1) (.loop { rec .ready none with state := .busy }) = W2 := ⟨_, rfl⟩
      have hl2 : W2.heap[D + 1]? = some (.loop { rec .ready none with state := .busy }) := by rw [← hW2]; exact World.putObj_heap_same hlt
      have hk2 : W2.heap[D]? = some (.deferred (some [])) := by rw [← hW2]; exact (World.putObj_heap_other (by omega)).trans hk
      have hi2 : I pre L W2 := by rw [← hW2]; exact (hI L).putObj _ hi (by omega) hl rfl
      have hg2 : Gv x L W2 := by rw [← hW2]; exact (hGv x L).putObj (s := ()) _ hgv (by omega) hl rfl
      have hs2 : W2.heap.size = W.heap.size := by rw [← hW2]; simp
      have ho2 : ∀ b, b ≠ D + 1 → W2.heap[b]? = W.heap[b]? := fun b hb => by rw [← hW2]; exact World.putObj_heap_other (by omega)
      have hbw2 : Below w0.heap.size w0 W2 := by rw [← hW2]; exact putB _ _ (by omega) hbw
      rw [hW2]
      refine wpIn_mono (hbody _ pre x L W2 hi2 hg2 hbw2 (fun b hb => by rw [hs2]; exact hLw b hb) hlen) ?_
      rintro e a3 W3 hp
      cases e with
      | normal =>
        obtain ⟨hk3, hb3, hL3, hi3⟩ := hp
        have hl3 := hk3.same _ _ (by omega) hl2 rfl
        have hk4 := hk3.same _ _ (by omega) hk2 rfl
        have hend := run_endRound (P := P) none hl3
        rw [hrec] at hend
        refine ⟨_, _, hend, rfl, ⟨?_, ?_, ?_, hLb⟩, putB _ _ (by omega) hb3, ?_, fun b hb => ?_⟩
        · exact (hI L).putObj _ hi3 (by omega) hl3 rfl
        · rw [hrec]; exact World.putObj_heap_same (Array.getElem?_eq_some_iff.1 hl3).1
        · exact (World.putObj_heap_other (by omega)).trans hk4
        · have := hk3.size; simp; omega
        · have hne : b ≠ D + 1 := by
            rcases hb with hb | hb
            · have := hLb b hb; omega
            · rintro rfl
              obtain ⟨o, h1, h2⟩ := hGb _ _ _ _ hgv hb
              rw [hl] at h1; injection h1 with h1; subst h1; cases h2
          exact (World.putObj_heap_other (by omega)).trans ((hL3 b hb).trans (ho2 b (by omega)))
      | ret => exact hp.elim
      | exit id => exact hp.elim
      | goto t => exact hp.elim
      | panic ch => exact hp.elim
      | outgrown => exact hp.elim
    · rintro e W2 ⟨⟨v, rfl⟩, xs, L, hS, hi, hl, hk, hLb⟩
      exact ⟨none, _, by have := run_endLoop (P := P) hl (by rw [hrec]; simp); rw [hrec] at this; exact this, hdone D xs L _ (by omega) hS ((hI L).putObj _ hi (by omega) hl rfl) ((World.putObj_heap_other (by omega)).trans hk)⟩
end Go.Proofs.YtpjijbophjdgaaaGreat
namespace Go.Proofs.YtpjijbophjdgaaaGreat
def posD (ps : List Int) : Nat → Nat → List Nat
  | 0, _ => []
  | d + 1, i => (kidsL ps i).flatMap (posD ps d) ++ if i = 0 then [] else [i]
def posF (t : Tre) (i : Nat) : List Nat := posD t.ps (t.ps.length - i) i
theorem flatMap_cong {α β : Type} {f g : α → List β} : ∀ {l : List α}, (∀ x ∈ l, f x = g x) → l.flatMap f = l.flatMap g
  | [], _ => rfl
  | a :: l, h => by
    rw [List.flatMap_cons, List.flatMap_cons, h a (by simp), flatMap_cong fun x hx => h x (List.mem_cons_of_mem _ hx)]
theorem posD_fuel (ps : List Int) : ∀ (d e i : Nat), ps.length - i ≤ d → ps.length - i ≤ e → i < ps.length → posD ps d i = posD ps e i
  | 0, e, i, h, _, hi => by omega
  | d + 1, 0, i, _, h, hi => by omega
  | d + 1, e + 1, i, h1, h2, hi => by
    rw [posD, posD]
    congr 1
    refine flatMap_cong fun c hc => ?_
    obtain ⟨c1, c2, _⟩ := mem_kidsL.1 hc
    exact posD_fuel ps d e c (by omega) (by omega) c1
theorem posF_eq (t : Tre) {i : Nat} (hi : i < t.ps.length) : posF t i = (kidsL t.ps i).flatMap (posF t) ++ if i = 0 then [] else [i] := by
  unfold posF
  obtain ⟨d, hd⟩ : ∃ d, t.ps.length - i = d + 1 := ⟨t.ps.length - i - 1, by omega⟩
  rw [hd, posD]
  congr 1
  refine flatMap_cong fun c hc => ?_
  obtain ⟨c1, c2, _⟩ := mem_kidsL.1 hc
  exact posD_fuel t.ps _ _ c (by omega) (Nat.le_refl _) c1
section
variable {t : Tre} {names : List ByteArray}
theorem posF_nodes (h : treeErr t = 0) : ∀ (d i : Nat), t.ps.length - i ≤ d → i < t.ps.length → (∀ k, k ∈ posF t i ↔ k ∈ nodesF (frT t) (rkT t) i ∧ k ≠ 0) ∧ (posF t i).length ≤ (nodesF (frT t) (rkT t) i).length
  | 0, i, hd, hi => by omega
  | d + 1, i, hd, hi => by
    have e := nodesF_eq (frT_arb h).wf hi
    rw [frT_kids] at e
    have ih : ∀ c ∈ kidsL t.ps i, (∀ k, k ∈ posF t c ↔ k ∈ nodesF (frT t) (rkT t) c ∧ k ≠ 0) ∧ (posF t c).length ≤ (nodesF (frT t) (rkT t) c).length := fun c hc => by
      obtain ⟨c1, c2, _⟩ := mem_kidsL.1 hc
      exact posF_nodes h d c (by omega) c1
    rw [posF_eq t hi, e]
    constructor
    · intro k
      rw [List.mem_append, List.mem_flatMap, List.mem_cons, List.mem_flatMap]
      constructor
      · rintro (⟨c, hc, hk⟩ | hk)
        · obtain ⟨h1, h2⟩ := ((ih c hc).1 k).1 hk
          exact ⟨.inr ⟨c, hc, h1⟩, h2⟩
        · by_cases h0 : i = 0
          · rw [if_pos h0] at hk; cases hk
          · rw [if_neg h0, List.mem_singleton] at hk
            subst hk; exact ⟨.inl rfl, h0⟩
      · rintro ⟨rfl | ⟨c, hc, hk⟩, h2⟩
        · rw [if_neg h2]; exact .inr (by simp)
        · exact .inl ⟨c, hc, ((ih c hc).1 k).2 ⟨hk, h2⟩⟩
    · have hs : ∀ l : List Nat, (∀ c ∈ l, (posF t c).length ≤ (nodesF (frT t) (rkT t) c).length) → (l.flatMap (posF t)).length ≤ (l.flatMap (nodesF (frT t) (rkT t))).length := fun l => by
        induction l with
        | nil => intro _; exact Nat.le_refl _
        | cons a l ihl =>
          intro hl
          have h1 := hl a (by simp)
          have h2 := ihl fun c hc => hl c (List.mem_cons_of_mem _ hc)
          rw [List.flatMap_cons, List.flatMap_cons, List.length_append, List.length_append]; omega
      have h1 := hs _ fun c hc => (ih c hc).2
      have h2 : (if i = 0 then ([] : List Nat) else [i]).length ≤ 1 := by split <;> simp
      rw [List.length_append, List.length_cons]
      show _ ≤ ((kidsL t.ps i).flatMap (nodesF (frT t) (rkT t))).length + 1
      omega
theorem mem_pos (h : treeErr t = 0) {k : Nat} : k ∈ posF t 0 ↔ 0 < k ∧ k < t.ps.length := by
  have h0 := (treeErr_zero h).1
  rw [(posF_nodes h _ 0 (Nat.le_refl _) h0).1, (nodes_perm h).mem_iff, List.mem_range]
  omega
theorem pos_len (h : treeErr t = 0) : (posF t 0).length ≤ t.ps.length := by
  have h0 := (treeErr_zero h).1
  refine Nat.le_trans (posF_nodes h _ 0 (Nat.le_refl _) h0).2 ?_
  rw [(nodes_perm h).length_eq, List.length_range]; exact Nat.le_refl _
theorem lvS_meet (h : OfOk t names) {i : Nat} (hi : i < t.ps.length) : 0 < (lvS t names i).length := by
  have hg : GoodR (toRF (frT t) (rkT t) i) := (good_toR h.te).sub (by
    rw [subR_toR h.te]
    exact List.mem_map.2 ⟨i, (nodes_perm h.te).mem_iff.2 (List.mem_range.2 hi), rfl⟩)
  obtain ⟨x, hx⟩ := hg.meet (subR_self _)
  obtain ⟨b, hb, _⟩ := (lvS_lv h hi x).1 hx
  exact List.length_pos_of_mem hb
theorem lvS_leaf (h : OfOk t names) {i : Nat} (hi : i < t.ps.length) (hk : kidsL t.ps i = []) : lvS t names i = [fdN names (gs t.ns i)] := by
  have hz := named_size (tleaf_named h.te hi hk)
  obtain ⟨b, hb, e⟩ := h.has i hi hz
  have hf : fdN names (gs t.ns i) = (b : Int) := by rw [← e]; exact fd_of h.nd hb
  refine lv_inj h.nd (lvS_asc t names i) (by simp) (fun x hx => by have := mem_lvS.1 hx; exact ⟨this.1, this.2.1⟩) (fun x hx => by
    rw [List.mem_singleton.1 hx, hf]; omega) (lvS_lv h hi) fun y => ?_
  rw [toRF_eq (frT_arb h.te).wf hi, frT_kids, hk, List.map_nil, show (frT t).nm i = gs t.ns i from rfl, leafR_leaf hz, hf]
  constructor
  · intro hy; exact ⟨b, by simp, by rw [e]; simpa using hy⟩
  · rintro ⟨c, hc, rfl⟩
    have : c = b := by have := List.mem_singleton.1 hc; omega
    subst this; rw [e]; simp
theorem lvS_node (h : OfOk t names) {i : Nat} (hi : i < t.ps.length) (hk : kidsL t.ps i ≠ []) : sortL ((kidsL t.ps i).flatMap (lvS t names)) = lvS t names i := by
  have hmem : toRF (frT t) (rkT t) i ∈ subR (toR t) := by
    rw [subR_toR h.te]
    exact List.mem_map.2 ⟨i, (nodes_perm h.te).mem_iff.2 (List.mem_range.2 hi), rfl⟩
  have hg : GoodR (toRF (frT t) (rkT t) i) := (good_toR h.te).sub hmem
  have eT := toRF_eq (frT_arb h.te).wf hi
  rw [frT_kids] at eT
  have hz : ((frT t).nm i).size = 0 := by
    have := hg.inn _ (subR_self _)
    rw [eT] at this
    exact this (by show List.map _ _ ≠ []; simpa using hk)
  have hlf : leafR (toRF (frT t) (rkT t) i) = ((kidsL t.ps i).map (toRF (frT t) (rkT t))).flatMap leafR := by rw [eT]; exact leafR_node hz
  have kl : ∀ c ∈ kidsL t.ps i, c < t.ps.length := fun c hc => (mem_kidsL.1 hc).1
  have hbd : ∀ c, ∀ x ∈ lvS t names c, 0 ≤ x ∧ x < (names.length : Int) := fun c x hx => by have := mem_lvS.1 hx; exact ⟨this.1, this.2.1⟩
  have hnd : ((kidsL t.ps i).flatMap (lvS t names)).Nodup := by
    have hn := hg.nd
    rw [hlf, List.nodup_iff_pairwise_ne, List.pairwise_flatMap] at hn
    have h2 := List.pairwise_map.1 hn.2
    rw [List.nodup_iff_pairwise_ne, List.pairwise_flatMap]
    refine ⟨fun c _ => (lvS_asc t names c).imp fun h e => by omega, h2.imp_of_mem fun {a b} ha hb hab x hx y hy e => ?_⟩
    subst e
    obtain ⟨q, rfl⟩ := Int.eq_ofNat_of_zero_le (hbd a x hx).1
    exact hab _ ((lvS_lv h (kl a ha) _).2 ⟨q, hx, rfl⟩) _ ((lvS_lv h (kl b hb) _).2 ⟨q, hy, rfl⟩) rfl
  have hasc : (sortL ((kidsL t.ps i).flatMap (lvS t names))).Pairwise (· < ·) := by
    have h1 := sortL_pair ((kidsL t.ps i).flatMap (lvS t names))
    have h2 : (sortL ((kidsL t.ps i).flatMap (lvS t names))).Nodup := (List.mergeSort_perm _ _).nodup_iff.2 hnd
    rw [List.nodup_iff_pairwise_ne] at h2
    exact (h1.and h2).imp fun ⟨a, b⟩ => by omega
  refine lv_inj h.nd hasc (lvS_asc t names i) (fun x hx => ?_) (hbd i) (fun y => ?_) (lvS_lv h hi)
  · obtain ⟨c, _, hc⟩ := List.mem_flatMap.1 ((List.mergeSort_perm _ _).mem_iff.1 hx)
    exact hbd c x hc
  · rw [hlf, List.mem_flatMap]
    constructor
    · rintro ⟨r, hr, hy⟩
      obtain ⟨c, hc, rfl⟩ := List.mem_map.1 hr
      obtain ⟨b, hb, e⟩ := (lvS_lv h (kl c hc) y).1 hy
      exact ⟨b, (List.mergeSort_perm _ _).mem_iff.2 (List.mem_flatMap.2 ⟨c, hc, hb⟩), e⟩
    · rintro ⟨b, hb, e⟩
      obtain ⟨c, hc, hb⟩ := List.mem_flatMap.1 ((List.mergeSort_perm _ _).mem_iff.1 hb)
      exact ⟨_, List.mem_map.2 ⟨c, hc, rfl⟩, (lvS_lv h (kl c hc) y).2 ⟨b, hb, e⟩⟩
end
theorem par_lt {t : Tre} (h : treeErr t = 0) {k i : Nat} (hk : k < t.ps.length) (e : gi t.ps k = (i : Int)) : i < k := by
  have hok := (treeErr_zero h).2.2.2.1
  by_cases h0 : k = 0
  · subst h0
    have h1 := pOkB_at hok hk
    unfold okp at h1
    simp at h1
    omega
  · have := pOkB_par hok hk (by omega)
    omega
end Go.Proofs.YtpjijbophjdgaaaGreat
