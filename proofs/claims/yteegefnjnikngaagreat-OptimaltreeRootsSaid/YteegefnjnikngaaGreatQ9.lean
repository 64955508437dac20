/- strings.Builder: copyCheck, WriteByte, WriteString, String, with the frame that keeps the .. -/
import Derived.Test.YteegefnjnikngaaGreatQ2
import Derived.Test.YteegefnjnikngaaGreatQ8
import Derived.Test.YteegefnjnikngaaGreatQ3
import Derived.RangeFuncWrites
import Derived.Laws.CopyOwn
import Derived.Deep.RegionLaw
import Derived.RegionTactic
import Derived.Test.YteegefnjnikngaaGreatQ6
import Derived.Test.YteegefnjnikngaaGreatQ1
set_option maxRecDepth 100000
namespace Go.Proofs.YteegefnjnikngaaGreat
section
open Go.RowKit Go.Deep
theorem GP : (Tryz.prog.info? 122).map (·.size) = some 2 := by kernel_rfl
theorem RV : liesAt Tryz.prog Tryz.prog.depth 122 (2 / Tryz.prog.cellsOf 122) 0 122 1 = true := by kernel_rfl
theorem GQ : (Tryz.prog.info? 5).map (fun i => (i.zero, i.size, i.bytes)) = some (some (.int .u8 0), 1, 1) := by kernel_rfl
theorem OP : (122 : TypeId) ≠ 5 := by decide
set_option maxHeartbeats 1000000 in
theorem V3 (b : Nat) (w : World) (h0 : w.cell? ⟨b, 0, none⟩ = some (.pointer (some ⟨b, 0, none⟩))) :
  Calls Tryz.prog 156 #[.pointer (some ⟨b, 0, none⟩)] w fun e w' => e = .returned (.tuple #[]) ∧ w' = w := by
 obtain ⟨j, hj, _⟩ := Option.map_eq_some_iff.1 GP
 go_enter Tryz.func156, Tryz.ntmps156
 go_wp2_with fail
 rw [Lib.run_neq_ptr_same w _ Tryz.underlying120 hj]
 go_wp2_with fail
 go_end0
 exact ⟨rfl, rfl⟩
set_option maxHeartbeats 1000000 in
theorem RX (b : Nat) (w : World) (h0 : w.cell? ⟨b, 0, none⟩ = some (.pointer none)) (hsh : w.shape? b = some (122, 2)) (hfz : w.frozen? ⟨b, 0, none⟩ = false) :
  Calls Tryz.prog 156 #[.pointer (some ⟨b, 0, none⟩)] w fun e w' => e = .returned (.tuple #[]) ∧ w' = w.setCell ⟨b, 0, none⟩ (.pointer (some ⟨b, 0, none⟩)) := by
 obtain ⟨j, hj, hjs⟩ := Option.map_eq_some_iff.1 GP
 go_enter Tryz.func156, Tryz.ntmps156
 go_wp2_with fail
 rw [Lib.run_to_unsafe w ⟨b, 0, none⟩ Tryz.underlying120 Tryz.underlying221 hj (by rw [hjs]; decide) hsh (Nat.zero_lt_succ 1)]
 simp only [Result.andThen]
 rw [Oper.upon_value]
 go_wp2_with fail
 rw [run_callFunc_extern Tryz.func215 (by kernel_rfl) (by kernel_rfl) (by kernel_rfl) (e := Extern.AbiNoEscape.same) (by kernel_rfl)]
 rw [Lib.run_noEscape]
 simp only [Result.andThen]
 rw [Oper.upon_value]
 go_wp2_with fail
 rw [Lib.run_from_unsafe w ⟨b, 0, none⟩ Tryz.underlying221 Tryz.underlying120 hj hsh RV]
 simp only [Result.andThen]
 rw [Oper.upon_value]
 go_wp2_with fail
 go_end0
 exact ⟨rfl, rfl⟩
theorem Yb (B b : Nat) (bs : List Value) (w : World) (h : Lib.IsBuilderF 122 5 B b bs w) :
  Calls Tryz.prog 156 #[.pointer (some ⟨b, 0, none⟩)] w fun e w' => e = .returned (.tuple #[]) ∧ (Lib.BuilderAtF 122 5 B b (.pointer (some ⟨b, 0, none⟩)) bs w' ∧ Below B w w' ∧ Lib.OthersKept 5 (some b) w w') := by
 rcases h with h | h
 ·refine (RX b w h.cell0 h.shape h.frozen0).mono ?_
  rintro e w' ⟨rfl, rfl⟩
  exact ⟨rfl, h.used _, (Below.refl B w).setCell (p := ⟨b, 0, none⟩) h.1 _, (Lib.OthersKept.refl _ _ w).setCell ⟨b, 0, none⟩ rfl _⟩
 ·refine (V3 b w h.cell0).mono ?_
  rintro e w' ⟨rfl, rfl⟩
  exact ⟨rfl, h, Below.refl B _, Lib.OthersKept.refl _ _ _⟩
set_option maxHeartbeats 2000000 in
theorem Dq (B b : Nat) (bs : List Value) (c : Int) (w : World) (h : Lib.IsBuilderF 122 5 B b bs w) (hlen : bs.length + 1 ≤ 140737488355328) (hBw : B ≤ w.heap.size) :
  Calls Tryz.prog 99 #[.pointer (some ⟨b, 0, none⟩), .int .u8 c] w fun e w' => e = .returned .nilIface ∧ (Lib.BuilderAtF 122 5 B b (.pointer (some ⟨b, 0, none⟩)) (bs ++ [.int .u8 c]) w' ∧ Below B w w' ∧ Lib.OthersKept 5 (some b) w w') := by
 obtain ⟨i0, hi, hzz⟩ := Option.map_eq_some_iff.1 GQ
 simp only [Prod.mk.injEq] at hzz
 obtain ⟨hz0, hz1, hz2⟩ := hzz
 have Ei := aa (Yb B b bs w h)
 clear h
 go_enter Tryz.func99, Tryz.ntmps99
 go_wp2_with fail
 refine Ei.out.mono ?_
 rintro e w1 ⟨rfl, h1, hb1, hk1⟩
 obtain ⟨hB, v, hbk, hown, hne⟩ := h1
 have c0 : w1.cell? ⟨b, 0, none⟩ = some (.pointer (some ⟨b, 0, none⟩)) := by rw [Lib.cell_of_heap hbk]; rfl
 have c1 : w1.cell? ⟨b, 1, none⟩ = some v := by rw [Lib.cell_of_heap hbk]; rfl
 go_wp2_with (at_builtin; refine wpList_append_ownF _ rfl _ _ 80 rfl B 5 i0 (.int .u8 0) 1 1 Tryz.underlying80 hi hz0 hz1 hz2 rfl (by decide) _ _ _ rfl (hown.alloc _) ⟨w1.heap.size, 0, none⟩ 1 1 [.int .u8 c] rfl rfl ?c1 ?c2 ?c3 ?c4 ?c5 ?_)
 case c1 =>
  intro j u hj
  match j, hj with
  | 0, hj => simp at hj; subst hj; simp [Addr.add]
 case c2 => intro u hu; simp at hu; subst hu; rfl
 case c3 => unfold maxLen; omega
 case c4 => omega
 case c5 => have := hb1.size; simp; omega
 intro v' w2 hown' hgrow _
 have hlt : b < w1.heap.size := by
  rcases Nat.lt_or_ge b w1.heap.size with h' | h'
  ·exact h'
  ·simp [Array.getElem?_eq_none h'] at hbk
 have hb2 : w2.heap[b]? = some (.cells #[.pointer (some ⟨b, 0, none⟩), v] 122 (0, 0)) := by
  rw [hgrow.block b (by simp; omega) (fun e => hne e.symm), Lib.alloc_old w1 _ b hlt]
  exact hbk
 have d0 : w2.cell? ⟨b, 0, none⟩ = some (.pointer (some ⟨b, 0, none⟩)) := by rw [Lib.cell_of_heap hb2]; rfl
 have d1 : w2.cell? ⟨b, 1, none⟩ = some v := by rw [Lib.cell_of_heap hb2]; rfl
 have f1 : w2.frozen? ⟨b, 1, none⟩ = false := Lib.frozen_of_heap hb2 1
 obtain ⟨g, cap, rfl⟩ : ∃ g cap, v' = .slice (some ⟨g, 0, none⟩) (bs.length + 1) cap := by
  rcases hown'.2 with ⟨_, h0⟩ | ⟨g, cap, cur, fz, hv, _⟩
  ·omega
  ·exact ⟨g, cap, hv⟩
 go_wp2_with fail
 go_ret
 refine ⟨rfl, ?_, ?_, ((hk1.alloc _).grown hgrow (Lib.ownsRowF_kind (hown.alloc _))).setCell ⟨b, 1, none⟩ rfl _⟩
 ·exact Lib.BuilderAtF.put (T := 122) (e := 5) hB hb2 (bs' := bs ++ [.int .u8 c]) (by simpa using hown') OP
 ·exact ((hb1.alloc (by have := hb1.size; omega) _).grown hgrow (by have := hb1.size; simp; omega) (fun k hk => (hown.lt k hk).1)).setCell (p := ⟨b, 1, none⟩) hB _
set_option maxHeartbeats 2000000 in
theorem Yc (B b : Nat) (bs : List Value) (s : ByteArray) (w : World) (h : Lib.IsBuilderF 122 5 B b bs w) (hlen : bs.length + s.size ≤ 140737488355328) (hBw : B ≤ w.heap.size) :
  Calls Tryz.prog 98 #[.pointer (some ⟨b, 0, none⟩), .string s] w fun e w' => e = .returned (.tuple #[.int .i64 s.size, .nilIface]) ∧ (Lib.BuilderAtF 122 5 B b (.pointer (some ⟨b, 0, none⟩)) (bs ++ Lib.strCells s) w' ∧ Below B w w' ∧ Lib.OthersKept 5 (some b) w w') := by
 obtain ⟨i0, hi, hzz⟩ := Option.map_eq_some_iff.1 GQ
 simp only [Prod.mk.injEq] at hzz
 obtain ⟨hz0, hz1, hz2⟩ := hzz
 have Ei := aa (Yb B b bs w h)
 clear h
 go_enter Tryz.func98, Tryz.ntmps98
 go_wp2_with fail
 refine Ei.out.mono ?_
 rintro e w1 ⟨rfl, h1, hb1, hk1⟩
 obtain ⟨hB, v, hbk, hown, hne⟩ := h1
 have c0 : w1.cell? ⟨b, 0, none⟩ = some (.pointer (some ⟨b, 0, none⟩)) := by rw [Lib.cell_of_heap hbk]; rfl
 have c1 : w1.cell? ⟨b, 1, none⟩ = some v := by rw [Lib.cell_of_heap hbk]; rfl
 go_wp2_with (at_builtin; refine Lib.wpList_append_own_stringF _ rfl _ _ 80 9 rfl B 5 i0 Tryz.underlying80 Tryz.underlying9 hi hz0 hz1 hz2 _ _ _ rfl hown s rfl ?c3 ?c4 ?c5 ?_)
 case c3 => unfold maxLen; omega
 case c4 => omega
 case c5 => have := hb1.size; omega
 intro v' w2 hown' hgrow _
 have hlt : b < w1.heap.size := by
  rcases Nat.lt_or_ge b w1.heap.size with h' | h'
  ·exact h'
  ·simp [Array.getElem?_eq_none h'] at hbk
 have hb2 : w2.heap[b]? = some (.cells #[.pointer (some ⟨b, 0, none⟩), v] 122 (0, 0)) := by
  rw [hgrow.block b hlt (fun e => hne e.symm)]
  exact hbk
 have d0 : w2.cell? ⟨b, 0, none⟩ = some (.pointer (some ⟨b, 0, none⟩)) := by rw [Lib.cell_of_heap hb2]; rfl
 have d1 : w2.cell? ⟨b, 1, none⟩ = some v := by rw [Lib.cell_of_heap hb2]; rfl
 have f1 : w2.frozen? ⟨b, 1, none⟩ = false := Lib.frozen_of_heap hb2 1
 obtain ⟨ao, n', cap, rfl⟩ : ∃ ao n' cap, v' = .slice ao n' cap := by
  rcases hown'.2 with ⟨hv, _⟩ | ⟨g, cap, cur, fz, hv, _⟩
  ·exact ⟨_, _, _, hv⟩
  ·exact ⟨_, _, _, hv⟩
 go_wp2_with fail
 go_ret2
 refine ⟨rfl, ?_, ?_, (hk1.grown hgrow (Lib.ownsRowF_kind hown)).setCell ⟨b, 1, none⟩ rfl _⟩
 ·exact Lib.BuilderAtF.put (T := 122) (e := 5) hB hb2 (bs' := bs ++ Lib.strCells s) (by simpa [Lib.strCells_length] using hown') OP
 ·exact (hb1.grown hgrow (by have := hb1.size; omega) (fun k hk => (hown.lt k hk).1)).setCell (p := ⟨b, 1, none⟩) hB _
theorem Yd (B b : Nat) (l : List UInt8) (w : World) (h : Lib.IsBuilderF 122 5 B b (Lib.byteCells l) w) (hBw : B ≤ w.heap.size) :
  Calls Tryz.prog 101 #[.pointer (some ⟨b, 0, none⟩)] w fun e w' => e = .returned (.string ⟨l.toArray⟩) ∧ (Lib.IsBuilderF 122 5 B b (Lib.byteCells l) w' ∧ Below B w w' ∧ Lib.OthersKept 5 (some b) w w') :=
 Any.Builder_String_any_k Tryz.bldG ⟨⟨by kernel_rfl, by kernel_rfl⟩, Tryz.underlying5, Tryz.isAgg5, Tryz.sizeOf5, Tryz.zeroValue5, by kernel_rfl, by kernel_rfl, by kernel_rfl, by decide⟩ B b l w h hBw
end
section
open Go.RowKit Go.Deep
end
section
open Go Go.RowKit Go.Deep
structure V4 (L L' : Nat → Prop) (W W' : World) : Prop where
 os : W'.os = W.os
 tape : W'.tape = W.tape
 output : W'.output = W.output
 size : W.heap.size ≤ W'.heap.size
 block : ∀ b, b < W.heap.size → ¬ L b → W'.heap[b]? = W.heap[b]?
 more : ∀ b, L' b → (L b ∧ b < W.heap.size) ∨ (W.heap.size ≤ b ∧ b < W'.heap.size)
def Ye {α : Type} (J : List α → (Nat → Prop) → World → Prop) : Prop := ∀ s L L' W W', J s L W → V4 L L' W W' → J s L' W'
def Yf {α : Type} (F : Fence) (n : Nat) (P : Program) (g : Nat) (lb : Array Value) (encs : α → Array Value) (Gv : α → (Nat → Prop) → World → Prop) (Gb : α → Nat → Prop) (S : List α → Prop) (N : Nat) (w w9 : World) (L0 : Nat → Prop) : Prop :=
 ∀ (l : Nat) (J : List α → (Nat → Prop) → World → Prop) (W : World), Below w.heap.size w W → (∀ b, L0 b → b < w9.heap.size ∧ W.heap[b]? = w9.heap[b]?) → w9.heap.size ≤ W.heap.size → Ye J →
  (∀ pre x L W1, J pre L W1 → Gv x L W1 → Below w.heap.size w W1 → (∀ b, L b → w.heap.size ≤ b ∧ b < W1.heap.size) → pre.length < N → YieldAt F (n - 1) P l (encs x) W1 fun e W' =>
   e = .returned (.bool true) ∧ J (pre ++ [x]) L W' ∧ Below w.heap.size w W' ∧ W1.heap.size ≤ W'.heap.size ∧ ∀ b, (L b ∨ Gb x b) → W'.heap[b]? = W1.heap[b]?) →
  J [] L0 W →
  CallsIn F n P g (#[.func (.yield l) #[] #[]] ++ lb) W fun e W' => (∃ v, e = .returned v) ∧ ∃ xs L, S xs ∧ J xs L W'
def RY {α : Type} (B : Nat) (w0 : World) (I : List α → (Nat → Prop) → World → Prop) (xs : List α) (L Lk : Nat → Prop) (W : World) : Exit → Act → World → Prop
 | .normal, _, W' => KeepsFrom B W W' ∧ Below w0.heap.size w0 W' ∧ (∀ b, Lk b → W'.heap[b]? = W.heap[b]?) ∧ I xs L W'
 | _, _, _ => False
theorem Ku {α : Type} {F : Fence} {n : Nat} {P : Program} {w : World} {g : Operand} {ps : Array Tmp} {assign body : Code} {Q : Exit → Act → World → Prop} {a : Act}
  (hro : F.round = none) (h1 : 1 ≤ n) {gf : Nat} {lb : Array Value} (hg : a.eval g = .func (.func gf) #[] lb) (hFg : F.fn gf) (eg : ∀ args w, (callFunc gf args).run P w = .ok (.enter gf args) w)
  {encs : α → Array Value} {Gv : α → (Nat → Prop) → World → Prop} {Gb : α → Nat → Prop} {S : List α → Prop} {N : Nat} {w0 : World} {L0 : Nat → Prop} (hseq : Yf F (n - 1) P gf lb encs Gv Gb S N w0 w L0) (yj : ∀ b, L0 b → b < w.heap.size) (hGb : ∀ x L W b, Gv x L W → Gb x b → ∃ o, W.heap[b]? = some o ∧ o.isCells = true) (hb0 : Below w0.heap.size w0 w) (hps : ∀ x, (encs x).size = ps.size)
  (hGv : ∀ x L, OwnFrom w.heap.size (fun (_ : Unit) W => Gv x L W))
  (I : List α → (Nat → Prop) → World → Prop) (hA : Ye I) (hI : ∀ L, OwnFrom w.heap.size (fun s W => I s L W)) (h0 : I [] L0 w) (a₁ : α → Act)
  (hassign : ∀ (l : Nat) (x : α) (W : World) (K : Act → World → Prop), K (a₁ x) W →
   assign.wpIn (F.inRound l) (n - 1 - 1) P (Exit.then K (fun _ _ _ => False)) { tmps := (ps.zip (encs x)).foldl (fun t (p, v) => t.setIfInBounds p v) a.tmps, defers := [] } W)
  (hbody : ∀ (l : Nat) (pre : List α) (x : α) (L : Nat → Prop) (W : World), I pre L W → Gv x L W → Below w0.heap.size w0 W → (∀ b, L b → w0.heap.size ≤ b ∧ b < W.heap.size) → pre.length < N → body.wpIn (F.inRound l) (n - 1 - 1) P (RY w.heap.size w0 I (pre ++ [x]) L (fun b => L b ∨ Gb x b) W) (a₁ x) W)
  (hdone : ∀ (D : Nat) (xs : List α) (L : Nat → Prop) (W : World), w.heap.size ≤ D → S xs → I xs L W → W.heap[D]? = some (.deferred (some [])) → Q .normal { a with defers := { target := .collected D, args := #[] } :: a.defers } W) :
  (Code.rangeFunc g ps assign body).wpIn F n P Q a w := by
 refine wpIn_rangeFunc ?_
 intro fn hfn
 rw [hro]
 obtain ⟨rec, yl⟩ : ∃ rec : LoopState → Option Code → Loop, rec = fun st pe => { state := st, pending := pe, fn, tmps := a.tmps, params := ps, assign, body, defers := w.heap.size } := ⟨_, rfl⟩
 obtain ⟨D, hD⟩ : ∃ D, D = w.heap.size := ⟨_, rfl⟩
 obtain ⟨W1, hW1⟩ : ∃ W1, (w.alloc (.deferred (some []))).alloc (.loop (rec .ready none)) = W1 := ⟨_, rfl⟩
 have hsz : W1.heap.size = D + 2 := by rw [← hW1, hD]; simp
 have Ue : W1.heap[D + 1]? = some (.loop (rec .ready none)) := by
  rw [← hW1, hD]; have := World.alloc_heap_new (w.alloc (.deferred (some []))) (.loop (rec .ready none)); rwa [World.size_alloc] at this
 have Uq : W1.heap[D]? = some (.deferred (some [])) := by
  rw [← hW1, hD]; exact (Below.heap_alloc _ _ _ (by simp)).trans (World.alloc_heap_new w _)
 have hI1 : I [] L0 W1 := by rw [← hW1]; exact (hI _).alloc _ ((hI _).alloc _ h0)
 have hb1 : Below w0.heap.size w0 W1 := by
  rw [← hW1]; exact hb0.trans ((((Below.refl _ w).alloc (Nat.le_refl _) _).alloc (by simp) _).mono hb0.size)
 have hb0s := hb0.size
 have Yg : ∀ {W : World} (l : Nat) (o : Obj), D ≤ l → Below w0.heap.size w0 W → Below w0.heap.size w0 (W.putObj l o) := fun {W} l o hl hb =>
  ⟨hb.os, hb.tape, hb.output, by have := hb.size; simpa using this, fun b hbb => (World.putObj_heap_other (by omega)).trans (hb.block b hbb)⟩
 refine ⟨D + 1, [{ target := .collected D, args := #[] }], W1, { target := .fn (.func gf) lb, args := #[.func (.yield (D + 1)) #[] #[]] }, W1, gf,
  #[.func (.yield (D + 1)) #[] #[]] ++ lb, W1, ?_, ?_, ?_, ?_, fun _ => h1, ?_⟩
 ·rw [← hW1, yl, hD]; exact run_enterLoop_outer _ _ _ _ _
 ·simp only [resolve, hg]
  simp [go_sem]
 ·intro f' hf'; simp [Target.leads] at hf'; subst hf'; exact hFg
 ·simp [invoke, go_sem, eg]
 ·refine (hseq (D + 1) (fun pre L W => I pre L W ∧ W.heap[D + 1]? = some (.loop (rec .ready none)) ∧ W.heap[D]? = some (.deferred (some [])) ∧ ∀ b, L b → b ≠ D ∧ b ≠ D + 1) W1 hb1 (fun b hb => ⟨yj b hb, by rw [← hW1]; exact (Below.heap_alloc _ _ _ (by have := yj b hb; simp; omega)).trans (Below.heap_alloc _ _ _ (yj b hb))⟩) (by rw [hsz, ← hD]; omega) ?_ ?_ ⟨hI1, Ue, Uq, fun b h => by have := yj b h; omega⟩).mono ?_
  ·rintro s L L' A B ⟨h1, h2, h3, h4⟩ hs
   have hlt := (Array.getElem?_eq_some_iff.1 h2).1
   refine ⟨hA s L L' A B h1 hs, (hs.block _ hlt fun e => ?_).trans h2, (hs.block _ (by omega) fun e => ?_).trans h3, fun b hb => ?_⟩
   ·have := h4 _ e; omega
   ·have := h4 _ e; omega
   ·rcases hs.more b hb with e | e
    ·exact h4 b e.1
    ·omega
  ·rintro pre x L W ⟨hi, hl, hk, K6⟩ OQ kL hLw hlen
   have hlt : D + 1 < W.heap.size := (Array.getElem?_eq_some_iff.1 hl).1
   have hy := run_yield (P := P) (args := encs x) hl (by rw [yl]; exact hps x)
   rw [yl] at hy
   refine ⟨fn, _, assign, body, hy, roundIn_of_wpIn hfn (hassign _ x W _ ⟨_, run_beginRound hl (by rw [yl]), ?_⟩)⟩
   obtain ⟨W2, hW2⟩ : ∃ W2, W.putObj (D + 1) (.loop { rec .ready none with state := .busy }) = W2 := ⟨_, rfl⟩
   have hl2 : W2.heap[D + 1]? = some (.loop { rec .ready none with state := .busy }) := by rw [← hW2]; exact World.putObj_heap_same hlt
   have hk2 : W2.heap[D]? = some (.deferred (some [])) := by rw [← hW2]; exact (World.putObj_heap_other (by omega)).trans hk
   have hi2 : I pre L W2 := by rw [← hW2]; exact (hI L).putObj _ hi (by omega) hl rfl
   have hg2 : Gv x L W2 := by rw [← hW2]; exact (hGv x L).putObj (s := ()) _ OQ (by omega) hl rfl
   have hs2 : W2.heap.size = W.heap.size := by rw [← hW2]; simp
   have ho2 : ∀ b, b ≠ D + 1 → W2.heap[b]? = W.heap[b]? := fun b hb => by rw [← hW2]; exact World.putObj_heap_other (by omega)
   have GD : Below w0.heap.size w0 W2 := by rw [← hW2]; exact Yg _ _ (by omega) kL
   rw [hW2]
   refine wpIn_mono (hbody _ pre x L W2 hi2 hg2 GD (fun b hb => by rw [hs2]; exact hLw b hb) hlen) ?_
   rintro e a3 W3 hp
   cases e with
   | normal =>
    obtain ⟨hk3, hb3, hL3, Ur⟩ := hp
    have Er := hk3.same _ _ (by omega) hl2 rfl
    have hk4 := hk3.same _ _ (by omega) hk2 rfl
    have hend := run_endRound (P := P) none Er
    rw [yl] at hend
    refine ⟨_, _, hend, rfl, ⟨?_, ?_, ?_, K6⟩, Yg _ _ (by omega) hb3, ?_, fun b hb => ?_⟩
    ·exact (hI L).putObj _ Ur (by omega) Er rfl
    ·rw [yl]; exact World.putObj_heap_same (Array.getElem?_eq_some_iff.1 Er).1
    ·exact (World.putObj_heap_other (by omega)).trans hk4
    ·have := hk3.size; simp; omega
    ·have hne : b ≠ D + 1 := by
      rcases hb with hb | hb
      ·have := K6 b hb; omega
      ·rintro rfl
       obtain ⟨o, h1, h2⟩ := hGb _ _ _ _ OQ hb
       rw [hl] at h1; injection h1 with h1; subst h1; cases h2
     exact (World.putObj_heap_other (by omega)).trans ((hL3 b hb).trans (ho2 b (by omega)))
   | ret => exact hp.elim
   | exit id => exact hp.elim
   | goto t => exact hp.elim
   | panic ch => exact hp.elim
   | outgrown => exact hp.elim
  ·rintro e W2 ⟨⟨v, rfl⟩, xs, L, hS, hi, hl, hk, K6⟩
   exact ⟨none, _, by have := run_endLoop (P := P) hl (by rw [yl]; simp); rw [yl] at this; exact this, hdone D xs L _ (by omega) hS ((hI L).putObj _ hi (by omega) hl rfl) ((World.putObj_heap_other (by omega)).trans hk)⟩
end
section
open Go.RowKit Go.Deep
theorem mul_one (N : Nat) (hN : N ≤ 1000) (w : World) : Calls Tryz.prog 283 #[.int .u64 1, .int .u64 N] w fun e w' => e = .returned (.tuple #[.int .u64 0, .int .u64 N]) ∧ w = w' := by
 have h := Tryz.bits_Mul 1 N (by decide) (by omega) w
 rw [Nat.one_mul, Nat.div_eq_of_lt (by omega), Nat.mod_eq_of_lt (by omega)] at h
 exact h.mono fun _ _ ⟨a, b⟩ => ⟨a, b.symm⟩
def ML (n i : Nat) : Value := if i < n then .int .i64 1 else .int .i64 0
def eU (N n : Nat) : List Value := (List.range N).map (ML n)
theorem qy (N n : Nat) : (eU N n).length = N := by simp [eU]
theorem tO {N n i : Nat} (h : i < N) : (eU N n)[i]? = some (if i < n then .int .i64 1 else .int .i64 0) := by simp [eU, h, ML]
theorem RZ {N n m : Nat} (h : n + m ≤ N) : ((eU N n).toArray.toList.take n ++ List.replicate m (.int .i64 1) ++ (eU N n).toArray.toList.drop (n + (List.replicate m (Value.int .i64 1)).length)) = eU N (n + m) := by
 apply List.ext_getElem?
 intro i
 by_cases hi : i < N
 ·rw [tO hi, List.append_assoc, List.getElem?_append]
  simp only [List.length_take, qy, List.length_replicate]
  by_cases h1 : i < n
  ·rw [if_pos (by omega), List.getElem?_take, if_pos h1, tO hi, if_pos h1, if_pos (by omega)]
  ·rw [if_neg (by omega), List.getElem?_append]
   by_cases h2 : i < n + m
   ·rw [if_pos (by rw [List.length_replicate]; omega), if_pos h2, List.getElem?_replicate, if_pos (by omega)]
   ·rw [if_neg (by rw [List.length_replicate]; omega), if_neg h2, List.getElem?_drop]
    simp only [List.length_replicate]
    have e : n + m + (i - min n N - m) = i := by omega
    rw [e, tO hi, if_neg (by omega)]
 ·rw [List.getElem?_eq_none (by simp [qy]; omega), List.getElem?_eq_none (by simp [qy]; omega)]
theorem Es (W : World) (g N n m dCap : Nat) (ad : Addr) (sLen sCap dLen : Nat) (hg : W.heap[g]? = some (.cells (eU N n).toArray 3 (0, 0))) (hm : m = Nat.min sLen dLen) (OG : n + m ≤ N)
  (hs : ∀ j, j < m → W.cell? (ad.add j) = some (.int .i64 1)) :
  Sem.run Tryz.prog (Builtin.copy_ #[26, 26] 3 #[.slice (some ⟨g, n, none⟩) dLen dCap, .slice (some ad) sLen sCap]) W = .ok (.int .i64 m) (W.setRow g (eU N (n + m)).toArray) := by
 have h := run_copy_row (P := Tryz.prog) W 26 26 3 3 g n dLen dCap ad sLen sCap (eU N n).toArray 3 (List.replicate m (.int .i64 1)) Tryz.underlying26 (by kernel_rfl) hg (by simpa using hm)
  (fun j v hj => by
   rw [List.getElem?_replicate] at hj
   split at hj
   ·injection hj with hj; subst hj; exact hs j (by assumption)
   ·cases hj) (by simpa [qy] using OG) (fun v hv => by rw [List.eq_of_mem_replicate hv]; rfl)
 rw [RZ OG, List.length_replicate] at h
 exact h
theorem OS (N : Nat) : madeCells #[.int .i64 0] N = (eU N 0).toArray := by
 apply Array.ext
 ·simp [qy, madeCells]
 ·intro i h1 h2
  simp [madeCells, eU, Nat.mod_one, ML]
theorem tP {W : World} {g N k : Nat} {T : TypeId} (h : W.heap[g]? = some (.cells (eU N k).toArray T (0, 0))) {j : Nat} (hj : j < N) : W.cell? ⟨g, j, none⟩ = some (if j < k then .int .i64 1 else .int .i64 0) := by
 have h2 := tO (n := k) hj
 rw [← h2]
 simp [World.cell?, h]
def Yh (w : World) (N : Nat) (e : Ending) (w' : World) : Prop := ∃ g, e = .returned (.slice (some ⟨g, 0, none⟩) N N) ∧ w.heap.size ≤ g ∧ Up w w' ∧ w'.heap[g]? = some (.cells (eU N N).toArray 3 (0, 0))
set_option maxHeartbeats 1000000 in
theorem GR (w : World) (b off : Nat) (N : Nat) (K4 : 1 ≤ N) (hN : N ≤ 1000) (hc : w.cell? ⟨b, off, none⟩ = some (.int .i64 1)) :
  Calls Tryz.prog 248 #[.slice (some ⟨b, off, none⟩) 1 1, .int .i64 N] w (Yh w N) := by
 have hmk := fun W => run_make_row' (P := Tryz.prog) 26 3 (.int .i64 0) 8 Tryz.underlying26 Tryz.lK rfl .i64 .i64 N (by omega) (by omega) W
 have d1 : decide ((N : Int) < 0) = false := by simp
 have d2 : decide ((9223372036854775807 : Int) < (N : Int)) = false := by simp; omega
 have kN : (w.alloc (.cells (madeCells #[.int .i64 0] N) 3)).heap[w.heap.size]? = some (.cells (eU N 0).toArray 3 (0, 0)) := by
  rw [blk_alloc_new, OS]
 have sG := Up.alloc w (.cells (madeCells #[.int .i64 0] N) 3)
 have hc0 := sG.cell hc
 have ym := aa kN
 have K7 := aa sG
 clear kN sG
 have nt := Es (w.alloc (.cells (madeCells #[.int .i64 0] N) 3)) w.heap.size N 0 1 N ⟨b, off, none⟩ 1 1 N ym.out (by show 1 = min 1 N; omega) (by omega) (fun j hj => by
  obtain rfl : j = 0 := by omega
  exact hc0)
 have BR : Hid (((w.alloc (.cells (madeCells #[.int .i64 0] N) 3)).setRow w.heap.size (eU N (0 + 1)).toArray).heap[w.heap.size]? = some (.cells (eU N (0 + 1)).toArray 3 (0, 0))) := setRow_heap _ _ _ _ _ _ ym.out
 have bT : Hid (Up w ((w.alloc (.cells (madeCells #[.int .i64 0] N) 3)).setRow w.heap.size (eU N (0 + 1)).toArray)) := below_setRow K7.out (Nat.le_refl _) _
 clear ym K7
 go_enter Tryz.func248, Tryz.ntmps248
 go_wp2_with (go_at_call 283; refine (mul_one N hN _).mono ?_; rintro e w' ⟨rfl, rfl⟩)
 generalize (w.alloc (.cells (madeCells #[.int .i64 0] N) 3)).setRow w.heap.size (eU N (0 + 1)).toArray = w1 at *
 go_loopw [8] (fun n wr => ∃ k : Nat, 1 ≤ k ∧ k ≤ N ∧ n = .int .i64 k ∧ Hid (wr.heap[w.heap.size]? = some (.cells (eU N k).toArray 3 (0, 0))) ∧ Hid (Up w wr)) (fun n _ => N - (intOf n).toNat)
 case atStart => exact ⟨1, Nat.le_refl _, K4, rfl, BR, bT⟩
 case round =>
  obtain ⟨k, hk1, hk2, rfl, HR, HU⟩ := hrel
  obtain ⟨wo, rfl⟩ : ∃ wo : World, wo = wr := ⟨_, rfl⟩
  by_cases hlt : k < N
  ·obtain ⟨m, hm⟩ : ∃ m : Nat, m = Nat.min k (N - k) := ⟨_, rfl⟩
   have hm2 : m = min k (N - k) := hm
   have XM : Sem.run Tryz.prog (Builtin.copy_ #[26, 26] 3 #[.slice (some ⟨w.heap.size, k, none⟩) (N - k) (N - k), .slice (some ⟨w.heap.size, 0, none⟩) k N]) wo.drew = .ok (.int .i64 m) (wo.drew.setRow w.heap.size (eU N (k + m)).toArray) :=
    Es wo.drew w.heap.size N k m (N - k) ⟨w.heap.size, 0, none⟩ k N (N - k) HR.out hm (by omega) (fun j hj => by
     have h := tP HR.out (j := j) (by omega)
     rw [if_pos (by omega)] at h
     have e : (⟨w.heap.size, 0, none⟩ : Addr).add j = ⟨w.heap.size, j, none⟩ := by simp [Addr.add]; omega
     rw [e]; exact h)
   have hmk : 1 ≤ m := by omega
   have hmN : k + m ≤ N := by omega
   have Et : Hid ((wo.drew.setRow w.heap.size (eU N (k + m)).toArray).heap[w.heap.size]? = some (.cells (eU N (k + m)).toArray 3 (0, 0))) := setRow_heap _ _ _ _ _ _ (show wo.drew.heap[w.heap.size]? = _ from HR.out)
   have bH : Hid (Up w (wo.drew.setRow w.heap.size (eU N (k + m)).toArray)) := below_setRow (show Up w wo.drew from below_drewN HU.out 1) (Nat.le_refl _) _
   clear hm hm2 HR HU
   go_wp2_with fail
   go_region
   all_goals
    go_wp2_with fail
    go_roundw
    case rel => exact ⟨k + m, by omega, by omega, by go_num, Et, bH⟩
    case measure => simp [intOf]; omega
  ·obtain rfl : k = N := by omega
   go_wp2_with fail
   go_ret
   exact ⟨_, rfl, Nat.le_refl _, HU.out, HR.out⟩
end
section
open Go.RowKit Go.Deep
end
section
open Go.RowKit Go.Deep
theorem aA.set {base : Nat} {e : TypeId} {w : World} {v : Value} {vs : List Value} (h : aA base e w v vs) {j : Nat} (hj : j < vs.length) :
  ∃ g cap, v = .slice (some ⟨g, 0, none⟩) vs.length cap ∧ base ≤ g ∧ g < w.heap.size ∧ w.cell? ⟨g, j, none⟩ = some (vs.getD j undef) ∧ w.frozen? ⟨g, j, none⟩ = false ∧ ∀ x, aA base e (w.setCell ⟨g, j, none⟩ x) v (vs.set j x) := by
 obtain ⟨hl, h | ⟨g, cap, cur, rfl, hg, hc, hn, hcm, hcs, ht⟩⟩ := h
 ·omega
 ·have tN : g < w.heap.size := (Array.getElem?_eq_some_iff.1 hc).1
  have ht1 : cur.toList.take vs.length = vs := by rw [Nat.mul_one] at ht; exact ht
  have hj2 : j < cur.size := by omega
  have hcell : cur[j]? = some (vs.getD j undef) := by
   have h1 : vs[j]? = some (vs.getD j undef) := by simp [hj]
   rw [← h1]
   have h2 := congrArg (·[j]?) ht1
   simp only [List.getElem?_take, hj, if_true] at h2
   rw [← h2]; simp
  refine ⟨g, cap, rfl, hg, tN, by simp [World.cell?, hc, hcell], by simp [World.frozen?, hc], fun x => ⟨by simp, .inr ⟨g, cap, cur.setIfInBounds j x, by simp, hg, ?_, by simpa using hn, hcm, by simpa using hcs, ?_⟩⟩⟩
  ·simp [World.setCell, Array.getElem?_modify, hc]
  ·rw [List.length_set, Nat.mul_one, Array.toList_setIfInBounds, List.take_set, ht1]
theorem aF {base : Nat} {e : TypeId} {w : World} {v : Value} {vs : List Value} (h : aA base e w v vs) {b : Nat} (hb : v.ownBlock = some b) : base ≤ b ∧ b < w.heap.size := World.ownsRow.lt h b hb
theorem V5 {l : List Int} {m : Nat} (h : m < l.length) : l.take (m + 1) = l.take m ++ [gi l m] := by
 rw [List.take_succ_eq_append_getElem h]; simp [gi, h]
section
variable {P : Program} {ops : Array Oper} {rest : List Oper} {o : Oper} {a : Act} {Q : Exit → Act → World → Prop}
theorem uC (W : World) (hgd : o.guard = none) (s x : Operand) (t : TypeId) (ho : o.op = .call { callee := .builtin .append, args := #[s, x], argTypes := #[t, t] })
  (base : Nat) (e : TypeId) (z : Value) (bytes : Nat) (ht : P.underlying t = some (.slice e)) (hinfo : (P.info? e).map (fun i => (i.zero, i.size, i.bytes)) = some (some z, 1, bytes))
  (hz1 : z.cells.size = 1) (nU : bytes ≤ 64) {v : Value} {vs : List Value} (hown : aA base e W v vs) (hs : a.eval s = v) (u : Value)
  (hx : a.eval x = .slice (some ⟨W.heap.size, 0, none⟩) 1 1) (h1 : u.oneCell' = true) (n : Nat) (zX : vs.length = n) (hn : n ≤ 1000000) (hbase : base ≤ W.heap.size)
  (h : ∀ g cap w', aA base e w' (.slice (some ⟨g, 0, none⟩) (n + 1) cap) (vs ++ [u]) → W.grownBy w' v.ownBlock → Below base W w' → wpList P ops Q rest (a.put o.dst (.slice (some ⟨g, 0, none⟩) (n + 1) cap)) w') :
  wpList P ops Q (o :: rest) a (W.alloc (.cells #[u] e)) := by
 subst zX
 exact mB W hgd s x t ho base e z bytes ht hinfo hz1 nU hown hs u hx h1 hn hbase h
end
end
section
open Go.RowKit Go.Deep
structure Eu where
 un : Int
 st : Int
 src : List Int
end
section
open Go.RowKit Go.Shelf Go.Deep
attribute [local go_sem] Oper.semAt_some
end
section
open Go.RowKit Go.Deep
def t3 : ax := ⟨[-1, 0, 1, 1, 0], [⟨#[]⟩, ⟨#[]⟩, ⟨#[65]⟩, ⟨#[66]⟩, ⟨#[67]⟩]⟩
def s3 : List Int := [0, 1, 1]
def u2 : List (List Int) := [[0, 1], [1, 0]]
theorem sH (w : World) (cs : Array Value) (T : TypeId) (xs : List Int) (hcs : cs.toList = xs.map (Value.int .i64)) (n : Nat) (hn : n = xs.length) : aB Any (w.alloc (.cells cs T)) (.slice (some ⟨w.heap.size, 0, none⟩) n n) xs := by
 subst hn
 refine ⟨_, _, rfl, Nat.le_refl _, .inr ⟨_, 0, rfl, trivial, fun k hk => ?_⟩⟩
 rw [Nat.zero_add, aT, ← Array.getElem?_toList, hcs]
 simp [gi, hk]
theorem GS (w : World) (cs : Array Value) (T : TypeId) (xs : List ByteArray) (hcs : cs.toList = xs.map Value.string) (n : Nat) (hn : n = xs.length) : av Any (w.alloc (.cells cs T)) (.slice (some ⟨w.heap.size, 0, none⟩) n n) xs := by
 subst hn
 refine ⟨_, _, rfl, Nat.le_refl _, .inr ⟨_, 0, rfl, trivial, fun k hk => ?_⟩⟩
 rw [Nat.zero_add, aT, ← Array.getElem?_toList, hcs]
 simp [gs, hk]
end
section
open Go.RowKit Go.Deep
end
section
open Go.RowKit Go.Deep
def QD (w w' : World) : Prop := ∃ n, w' = w.drewN n
theorem QD.refl (w : World) : QD w w := ⟨0, rfl⟩
theorem QD.drewN {w w' : World} (h : QD w w') (n : Nat) : QD w (w'.drewN n) := by
 obtain ⟨m, rfl⟩ := h; exact ⟨m + n, by rw [World.drewN_drewN]⟩
theorem QD.kept {w w' : World} (h : QD w w') (S : Nat → Prop) : Kept S w w' := by
 obtain ⟨m, rfl⟩ := h; exact fun _ _ _ => rfl
theorem QD.up {w w' : World} (h : QD w w') : Up w w' := by
 obtain ⟨m, rfl⟩ := h; exact Up.drewN w m
end
end Go.Proofs.YteegefnjnikngaaGreat
