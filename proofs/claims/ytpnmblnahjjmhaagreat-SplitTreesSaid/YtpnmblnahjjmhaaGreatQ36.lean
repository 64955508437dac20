/- split.Of: what its loop keeps. split.pair, All, Compatible. -/
import Derived.Test.YtpnmblnahjjmhaaGreatQ1
import Derived.Test.YtpnmblnahjjmhaaGreatQ34
import Derived.Test.YtpnmblnahjjmhaaGreatQ35
import Derived.Test.YtpnmblnahjjmhaaGreatQ12
set_option maxRecDepth 100000
namespace Go.Proofs.YtpnmblnahjjmhaaGreat
section
open Go.RowKit Go.Deep Go.Shelf
def x8 (t : aA) (names : List ByteArray) (l : List Nat) : List (List Int) := (l.map fun k => aU names.length (aN t names k)).filter fun s => decide (aF names.length s = 0)
theorem EA (t : aA) (names : List ByteArray) (l : List Nat) (k : Nat) : x8 t names (l ++ [k]) = x8 t names l ++ if aF names.length (aU names.length (aN t names k)) = 0 then [aU names.length (aN t names k)] else [] := by
 unfold x8
 rw [List.map_append, List.filter_append]
 congr 1
 by_cases h : aF names.length (aU names.length (aN t names k)) = 0 <;> simp [h]
theorem av.grown {S : Nat → Prop} {X Y : World} {v : Value} {n : Nat} {f : Nat → Value} {row : Option Nat} (h : av S X v n f) (hg : X.grownBy Y row) (hr : ∀ r, row = some r → ∃ o, X.heap[r]? = some o ∧ o.isCells = false) : av S Y v n f := by
 obtain ⟨p, cap, rfl, hn, h⟩ := h
 refine ⟨p, cap, rfl, hn, ?_⟩
 by_cases h0 : n = 0
 ·exact .inl h0
 ·rcases h with h | ⟨g, off, rfl, hS, hc⟩
  ·exact absurd h h0
  ·refine .inr ⟨g, off, rfl, hS, fun k hk => ?_⟩
   have h1 := hc k hk
   have hl := World.block_lt_of_cell? X _ h1
   refine (World.cell?_of_block (a := ⟨g, off + k, none⟩) (hg.block g hl fun e => ?_)).trans h1
   obtain ⟨o, h2, h3⟩ := hr g e.symm
   simp only [World.cell?] at h1
   rw [h2] at h1
   cases o <;> simp [Obj.isCells] at h3 <;> simp at h1
def pV (W : World) (b : Nat) : Prop := ∃ c z, W.heap[b]? = some (Obj.cells c 3 z)
theorem pV.same {W W' : World} {b : Nat} (h : pV W b) (e : W'.heap[b]? = W.heap[b]?) : pV W' b := by
 obtain ⟨c, z, h⟩ := h
 exact ⟨c, z, e.trans h⟩
structure j0 (w6 : World) (t : aA) (names : List ByteArray) (pre : List El) (L : Nat → Prop) (W : World) : Prop where
 up : Up w6 W
 sz : w6.heap.size + 2 ≤ W.heap.size
 lo : ∀ b, L b → w6.heap.size ≤ b
 nL : ¬ L w6.heap.size ∧ ¬ L (w6.heap.size + 1)
 nb : W.heap[w6.heap.size]? = some (Obj.cells #[.int .i64 (names.length : Int)] 3 (0, 0))
 ex : ∃ (ov : Value) (ps : List (List Int × Value)), W.heap[w6.heap.size + 1]? = some (Obj.cells #[ov] 23 (0, 0)) ∧ ah (w6.heap.size + 2) 26 W ov (ps.map (·.2)) ∧ ps.map (·.1) = x8 t names (pre.map (·.1)) ∧ ps.length ≤ pre.length ∧
  (∀ p ∈ ps, ∃ q c, p.2 = .slice q p.1.length c) ∧ (∀ p ∈ ps, af (fun b => ov.ownBlock ≠ some b ∧ b ≠ w6.heap.size + 1 ∧ (¬ L b ∧ pV W b)) W p.2 p.1) ∧ ∀ g, ov.ownBlock = some g → ¬ L g
section
variable {w6 : World} {t : aA} {names : List ByteArray}
theorem j0.ab : KL (j0 w6 t names) := by
 rintro s L L' W W' h hs
 obtain ⟨ov, ps, h1, h2, h3, h4, h5, h6, h7⟩ := h.ex
 have hsz := h.sz
 have hnl : ∀ b, b < W.heap.size → ¬ L b → ¬ L' b := fun b hb hn hb' => by
  rcases hs.more b hb' with e | e
  ·exact hn e.1
  ·omega
 refine ⟨⟨hs.os.trans h.up.os, hs.tape.trans h.up.tape, hs.output.trans h.up.output, Nat.le_trans h.up.size hs.size, fun b hb => (hs.block b (by omega) fun e => by have := h.lo b e; omega).trans (h.up.block b hb)⟩, by have := hs.size; omega, fun b hb => ?_, ⟨hnl _ (by omega) h.nL.1, hnl _ (by omega) h.nL.2⟩,
  (hs.block _ (by omega) h.nL.1).trans h.nb, ov, ps, (hs.block _ (by omega) h.nL.2).trans h1, ah.vC h2 fun b hb => hs.block b (ax h2 hb).2 (h7 b hb), h3, h4, h5, fun p hp => ?_, fun g hg => hnl g (ax h2 hg).2 (h7 g hg)⟩
 ·rcases hs.more b hb with e | e
  ·exact h.lo b e.1
  ·omega
 ·have hk := h6 p hp
  obtain ⟨q, cap, hv, hn, hx⟩ := hk
  refine ⟨q, cap, hv, hn, ?_⟩
  by_cases h0 : p.1.length = 0
  ·exact .inl h0
  ·rcases hx with hx | ⟨g, off, e, ⟨s1, s2, s3⟩, hc⟩
   ·exact absurd hx h0
   ·have hl := World.block_lt_of_cell? W _ (hc 0 (by omega))
    exact .inr ⟨g, off, e, ⟨s1, s2, hnl g hl s3.1, s3.2.same (hs.block g hl s3.1)⟩, fun k hk => (World.cell?_of_block (a := ⟨g, off + k, none⟩) (hs.block g hl s3.1)).trans (hc k hk)⟩
theorem j0.own {B : Nat} (hB : w6.heap.size + 2 ≤ B) (L : Nat → Prop) : OwnFrom B (fun s W => j0 w6 t names s L W) := by
 intro s X Y row h hg hr
 obtain ⟨ov, ps, h1, h2, h3, h4, h5, h6, h7⟩ := h.ex
 have hsz := h.sz
 have mz : ∀ b, b < w6.heap.size + 2 → Y.heap[b]? = X.heap[b]? := fun b hb => hg.block b (by omega) fun e => by have := (hr b e.symm).1; omega
 have tyi : ∀ b, pV X b → pV Y b := fun b ⟨c, z, hc⟩ => ⟨c, z, (hg.block b (Array.getElem?_eq_some_iff.1 hc).1 fun e => by
  obtain ⟨_, o, h8, h9⟩ := hr b e.symm
  rw [hc] at h8; injection h8 with h8; subst h8; cases h9).trans hc⟩
 refine ⟨⟨hg.os.trans h.up.os, hg.tape.trans h.up.tape, hg.output.trans h.up.output, Nat.le_trans h.up.size hg.size, fun b hb => (mz b (by omega)).trans (h.up.block b hb)⟩, by have := hg.size; omega, h.lo, h.nL, (mz _ (by omega)).trans h.nb, ov, ps, (mz _ (by omega)).trans h1,
  ah.vC h2 fun b hb => hg.block b (ax h2 hb).2 fun e => ?_, h3, h4, h5, fun p hp => af.sub (show af _ Y p.2 p.1 from av.grown (h6 p hp) hg fun r e => (hr r e).2) fun b hb _ => ⟨hb.1, hb.2.1, hb.2.2.1, tyi b hb.2.2.2⟩, h7⟩
 obtain ⟨_, o, h8, h9⟩ := hr b e.symm
 obtain ⟨c, h10⟩ := ah.iP h2 hb
 rw [h10] at h8; injection h8 with h8; subst h8; cases h9
theorem VX {B : Nat} (x : El) (L : Nat → Prop) : OwnFrom B (fun (_ : Unit) W => Hr t names x L W) := by
 intro s X Y row h hg hr
 obtain ⟨h1, h2, p, c, e, h3, h4⟩ := h
 refine ⟨h1, h2, p, c, e, av.grown h3 hg fun r e => (hr r e).2, fun g sg => ?_⟩
 obtain ⟨cc, z, h5⟩ := h4 g sg
 refine ⟨cc, z, (hg.block g (Array.getElem?_eq_some_iff.1 h5).1 fun e => ?_).trans h5⟩
 obtain ⟨_, o, h8, h9⟩ := hr g e.symm
 rw [h5] at h8; injection h8 with h8; subst h8; cases h9
theorem Y6 (x : El) (L : Nat → Prop) (W : World) (b : Nat) (h : Hr t names x L W) (hb : x.2.ownBlock = some b) : ∃ o, W.heap[b]? = some o ∧ o.isCells = true := by
 obtain ⟨_, _, _, _, _, _, h4⟩ := h
 obtain ⟨c, z, h5⟩ := h4 b hb
 exact ⟨_, h5, rfl⟩
theorem j0.grow {pre : List El} {L : Nat → Prop} {W W' : World} (h : j0 w6 t names pre L W) (hL : ∀ b, L b → b < W.heap.size) (hu : Up W W') : j0 w6 t names pre L W' :=
 j0.ab pre L L W W' h ⟨hu.os, hu.tape, hu.output, hu.size, fun b hb _ => Below.block hu b hb, fun b hb => .inl ⟨hb, hL b hb⟩⟩
theorem j0.pass {pre : List El} {L : Nat → Prop} {W : World} (h : j0 w6 t names pre L W) {x : El} (hx : aF names.length (aU names.length (aN t names x.1)) ≠ 0) : j0 w6 t names (pre ++ [x]) L W := by
 obtain ⟨ov, ps, h1, h2, h3, h4, h5, h6, h7⟩ := h.ex
 exact ⟨h.up, h.sz, h.lo, h.nL, h.nb, ov, ps, h1, h2, by rw [List.map_append, List.map_singleton, EA, if_neg hx, List.append_nil]; exact h3, by simp; omega, h5, h6, h7⟩
theorem PM {base : Nat} {e : TypeId} {W : World} {v : Value} {a b : List Value} (h : ah base e W v a) (k : ah base e W v b) : a = b := by
 obtain ⟨_, ⟨h1, h2⟩ | ⟨g, cap, cur, h1, _, h2, _, _, _, h3⟩⟩ := h <;> obtain ⟨_, ⟨k1, k2⟩ | ⟨g', cap', cur', k1, _, k2, _, _, _, k3⟩⟩ := k
 ·rw [List.length_eq_zero_iff.1 h2, List.length_eq_zero_iff.1 k2]
 ·rw [h1] at k1; cases k1
 ·rw [h1] at k1; cases k1
 ·rw [h1] at k1
  injection k1 with e1 e2 _
  injection e1 with e1
  injection e1 with e1 _ _
  subst e1
  rw [h2] at k2; injection k2 with k2; injection k2 with k2 _ _
  subst k2
  rw [← h3, ← k3, e2]
theorem j0.push {pre : List El} {L : Nat → Prop} {W : World} (h : j0 w6 t names pre L W) (hL : ∀ b, L b → b < W.heap.size) {x : El} (hx : aF names.length (aU names.length (aN t names x.1)) = 0) {u : Value} (hu : ∃ q c, u = .slice q (aU names.length (aN t names x.1)).length c)
  (hi : af (fun b => ¬ L b) W u (aU names.length (aN t names x.1))) (ht : ∀ g, u.ownBlock = some g → ∃ c z, W.heap[g]? = some (Obj.cells c 3 z)) {ov : Value} (pR : W.heap[w6.heap.size + 1]? = some (Obj.cells #[ov] 23 (0, 0))) {W3 : World} {v' : Value}
  {vs : List Value} (hvs : ah (w6.heap.size + 2) 26 W ov vs) (hno : ah (w6.heap.size + 2) 26 W3 v' (vs ++ [u])) (hg : W.grownBy W3 ov.ownBlock) (hb : ∀ g, v'.ownBlock = some g → ov.ownBlock = some g ∨ W.heap.size ≤ g) :
  j0 w6 t names (pre ++ [x]) L (W3.setCell ⟨w6.heap.size + 1, 0, none⟩ v') ∧ KeepsFrom (w6.heap.size + 2) W (W3.setCell ⟨w6.heap.size + 1, 0, none⟩ v') ∧ ∀ b, b < W.heap.size → ov.ownBlock ≠ some b → b ≠ w6.heap.size + 1 → (W3.setCell ⟨w6.heap.size + 1, 0, none⟩ v').heap[b]? = W.heap[b]? := by
 obtain ⟨ov', ps, h1, h2, h3, h4, h5, h6, h7⟩ := h.ex
 rw [pR] at h1; injection h1 with h1; injection h1 with h1 _ _; injection h1 with h1; injection h1 with h1; subst h1
 have hsz := h.sz
 have bD : ∀ b, b ≠ w6.heap.size + 1 → (W3.setCell ⟨w6.heap.size + 1, 0, none⟩ v').heap[b]? = W3.heap[b]? := fun b hb => blk_setCell_other _ _ _ _ hb
 have hov3 : W3.heap[w6.heap.size + 1]? = some (Obj.cells #[ov] 23 (0, 0)) := (hg.block _ (by omega) fun e => by have := (ax h2 e.symm).1; omega).trans pR
 have hall : ∀ b, b < W.heap.size → ov.ownBlock ≠ some b → b ≠ w6.heap.size + 1 → (W3.setCell ⟨w6.heap.size + 1, 0, none⟩ v').heap[b]? = W.heap[b]? := fun b h1 h2 h3 => (bD b h3).trans (hg.block b h1 fun e => h2 e.symm)
 have evs := PM hvs h2
 subst evs
 have mz : ∀ b, b < w6.heap.size + 1 → (W3.setCell ⟨w6.heap.size + 1, 0, none⟩ v').heap[b]? = W.heap[b]? := fun b hb => hall b (by omega) (fun e => by have := (ax h2 e).1; omega) (by omega)
 have hkeep : ∀ {v : Value} {xs : List Int}, af (fun b => ov.ownBlock ≠ some b ∧ b ≠ w6.heap.size + 1 ∧ (¬ L b ∧ pV W b)) W v xs → af (fun b => v'.ownBlock ≠ some b ∧ b ≠ w6.heap.size + 1 ∧ (¬ L b ∧ pV (W3.setCell ⟨w6.heap.size + 1, 0, none⟩ v') b)) (W3.setCell ⟨w6.heap.size + 1, 0, none⟩ v') v xs := fun {v xs} hk => by
  obtain ⟨q, cap, hv, hn, hx⟩ := hk
  refine ⟨q, cap, hv, hn, ?_⟩
  by_cases h0 : xs.length = 0
  ·exact .inl h0
  ·rcases hx with hx | ⟨g, off, e, ⟨s1, s2, s3⟩, hc⟩
   ·exact absurd hx h0
   ·have hl := World.block_lt_of_cell? W _ (hc 0 (by omega))
    have hl : g < W.heap.size := hl
    refine .inr ⟨g, off, e, ⟨fun e2 => ?_, s2, s3.1, s3.2.same (hall g hl s1 s2)⟩, fun k hk => (World.cell?_of_block (a := ⟨g, off + k, none⟩) (hall g hl s1 s2)).trans (hc k hk)⟩
    rcases hb g e2 with e3 | e3
    ·exact s1 e3
    ·omega
 refine ⟨⟨⟨hg.os.trans h.up.os, hg.tape.trans h.up.tape, hg.output.trans h.up.output, by rw [World.size_setCell]; have := hg.size; have := h.up.size; omega, fun b hb => (mz b (by omega)).trans (h.up.block b hb)⟩, by rw [World.size_setCell]; have := hg.size; omega, h.lo, h.nL, (mz _ (by omega)).trans h.nb, v', ps ++ [(aU names.length (aN t names x.1), u)], ?_, ?_, ?_, by simp; omega, ?_, ?_, ?_⟩, ⟨by rw [World.size_setCell]; exact hg.size, fun k o hk hk2 hk3 => ?_⟩, hall⟩
 ·simp [World.setCell, Array.getElem?_modify, hov3]
 ·rw [List.map_append]
  exact ah.vC hno fun b hb => bD b (by have := (ax hno hb).1; omega)
 ·rw [List.map_append, h3, List.map_append, List.map_singleton, List.map_singleton, EA, if_pos hx]
 ·intro p hp
  rcases List.mem_append.1 hp with hp | hp
  ·exact h5 p hp
  ·rw [List.mem_singleton.1 hp]; exact hu
 ·intro p hp
  rcases List.mem_append.1 hp with hp | hp
  ·exact hkeep (h6 p hp)
  ·rw [List.mem_singleton.1 hp]
   refine hkeep ?_
   obtain ⟨q, cap, hv, hn, Uh⟩ := hi
   refine ⟨q, cap, hv, hn, Uh.imp id fun ⟨g, off, e, s3, hc⟩ => ⟨g, off, e, ⟨fun e2 => ?_, fun e2 => ?_, s3, ht g (by show u.ownBlock = some g; rw [show u = _ from hv, e]; rfl)⟩, hc⟩⟩
   ·obtain ⟨c, z, h8⟩ := ht g (by show u.ownBlock = some g; rw [show u = _ from hv, e]; rfl)
    obtain ⟨c2, h9⟩ := ah.iP h2 e2
    rw [h8] at h9; injection h9 with h9; injection h9 with _ h9 _; exact absurd h9 (by decide)
   ·obtain ⟨c, z, h8⟩ := ht g (by show u.ownBlock = some g; rw [show u = _ from hv, e]; rfl)
    rw [e2, pR] at h8; injection h8 with h8; injection h8 with _ h8 _; exact absurd h8 (by decide)
 ·intro g sg hL'
  rcases hb g sg with e | e
  ·exact h7 g e hL'
  ·have := hL g hL'; omega
 ·have iq := (Array.getElem?_eq_some_iff.1 hk2).1
  rw [hall k iq (fun e => ?_) (by omega)]
  ·exact hk2
  ·obtain ⟨c, h9⟩ := ah.iP h2 e
   rw [hk2] at h9; injection h9 with h9; subst h9; cases hk3
theorem j0.Ia {B : Nat} {pre : List El} {L : Nat → Prop} {W W' : World} (h : j0 w6 t names pre L W) (hL : ∀ b, L b → b < W.heap.size) (hu : Up W W') {x : El} (hg : ∀ g, x.2.ownBlock = some g → ∃ c z, W.heap[g]? = some (Obj.cells c 3 z)) (hx : aF names.length (aU names.length (aN t names x.1)) ≠ 0) :
  KeepsFrom B W W' ∧ Below w6.heap.size w6 W' ∧ (∀ b, (L b ∨ x.2.ownBlock = some b) → W'.heap[b]? = W.heap[b]?) ∧ j0 w6 t names (pre ++ [x]) L W' := by
 have h2 := (h.grow hL hu).pass hx
 refine ⟨KeepsFrom.of_grownBy (Ap hu none) (fun j e => by cases e), h2.up, fun b hb => Below.block hu b ?_, h2⟩
 rcases hb with hb | hb
 ·exact hL b hb
 ·obtain ⟨c, z, h5⟩ := hg b hb
  exact (Array.getElem?_eq_some_iff.1 h5).1
theorem j0.Ib {B : Nat} (hB : w6.heap.size + 2 ≤ B) {pre : List El} {L : Nat → Prop} {W W2 : World} (h : j0 w6 t names pre L W) (hL : ∀ b, L b → b < W.heap.size) (aC : Up W W2) {x : El} (hgx : ∀ g, x.2.ownBlock = some g → ∃ c z, W.heap[g]? = some (Obj.cells c 3 z)) (hx : aF names.length (aU names.length (aN t names x.1)) = 0) {u : Value} (hu : ∃ q c, u = .slice q (aU names.length (aN t names x.1)).length c)
  (hi : af (fun b => ¬ L b) W2 u (aU names.length (aN t names x.1))) (ht : ∀ g, u.ownBlock = some g → ∃ c z, W2.heap[g]? = some (Obj.cells c 3 z)) {ov : Value} (pR : W2.heap[w6.heap.size + 1]? = some (Obj.cells #[ov] 23 (0, 0))) {W3 : World} {v' : Value}
  {vs : List Value} (hvs : ah (w6.heap.size + 2) 26 W2 ov vs) (hno : ah (w6.heap.size + 2) 26 W3 v' (vs ++ [u])) (hg : W2.grownBy W3 ov.ownBlock) (hb : ∀ g, v'.ownBlock = some g → ov.ownBlock = some g ∨ W2.heap.size ≤ g) :
  KeepsFrom B W (W3.setCell ⟨w6.heap.size + 1, 0, none⟩ v') ∧ Below w6.heap.size w6 (W3.setCell ⟨w6.heap.size + 1, 0, none⟩ v') ∧ (∀ b, (L b ∨ x.2.ownBlock = some b) → (W3.setCell ⟨w6.heap.size + 1, 0, none⟩ v').heap[b]? = W.heap[b]?) ∧ j0 w6 t names (pre ++ [x]) L (W3.setCell ⟨w6.heap.size + 1, 0, none⟩ v') := by
 have h2 := h.grow hL aC
 have hL2 : ∀ b, L b → b < W2.heap.size := fun b hb => Nat.lt_of_lt_of_le (hL b hb) aC.size
 obtain ⟨p1, p2, p3⟩ := h2.push hL2 hx hu hi ht pR hvs hno hg hb
 have k1 : KeepsFrom B W W2 := KeepsFrom.of_grownBy (Ap aC none) (fun j e => by cases e)
 have k2 : KeepsFrom B W2 (W3.setCell ⟨w6.heap.size + 1, 0, none⟩ v') := ⟨p2.size, fun k o hk => p2.same k o (by omega)⟩
 refine ⟨k1.trans k2, p1.up, fun b hb => ?_, p1⟩
 have hbl : b < W.heap.size := by
  rcases hb with hb | hb
  ·exact hL b hb
  ·obtain ⟨c, z, h5⟩ := hgx b hb
   exact (Array.getElem?_eq_some_iff.1 h5).1
 refine (p3 b (Nat.lt_of_lt_of_le hbl aC.size) (fun e => ?_) (fun e => ?_)).trans (Below.block aC b hbl)
 ·rcases hb with hb | hb
  ·obtain ⟨ov', ps, h3, h4, _, _, _, _, h5⟩ := h2.ex
   rw [pR] at h3; injection h3 with h3; injection h3 with h3 _ _; injection h3 with h3; injection h3 with h3; subst h3
   exact h5 b e hb
  ·obtain ⟨c, z, h5⟩ := hgx b hb
   obtain ⟨c2, h6⟩ := ah.iP hvs e
   rw [Below.block aC b hbl, h5] at h6; injection h6 with h6; injection h6 with _ h6 _; exact absurd h6 (by decide)
 ·rcases hb with hb | hb
  ·exact h2.nL.2 (e ▸ hb)
  ·obtain ⟨c, z, h5⟩ := hgx b hb
   have h6 := (Below.block aC b hbl).trans h5
   rw [e, pR] at h6; injection h6 with h6; injection h6 with _ h6 _; exact absurd h6 (by decide)
end
theorem x9 (xs : List Int) (x : Int) : ((List.range xs.length).any fun j => decide (x = gi xs j)) = xs.contains x := by
 rw [Bool.eq_iff_iff, List.any_eq_true, List.contains_iff_mem]
 constructor
 ·rintro ⟨j, hj, e⟩
  rw [of_decide_eq_true e]; exact gi_in (List.mem_range.1 hj)
 ·intro h
  obtain ⟨k, hk, e⟩ := vz h
  exact ⟨k, List.mem_range.2 hk, decide_eq_true e.symm⟩
theorem uK.rowsT {S : Nat → Prop} {base : Nat} {w : World} {v : Value} {ps : List (List Int × Value)} (h : uK base w v ps) (ht : ∀ p ∈ ps, af S w p.2 p.1) : ∃ f, av (fun b => base ≤ b) w v (ps.map (·.1)).length f ∧ ∀ k, k < (ps.map (·.1)).length → af S w (f k) (gl (ps.map (·.1)) k) := by
 have h1 := h.own.qZ
 rw [List.length_map] at h1
 refine ⟨_, by rw [List.length_map]; exact h1, fun k hk => ?_⟩
 have hk' : k < ps.length := by simpa using hk
 have h2 := ht ps[k] (List.getElem_mem hk')
 have e : gl (ps.map (·.1)) k = ps[k].1 := by simp [gl, hk']
 rw [e]
 simpa [hk'] using h2
theorem Ar {W W' : World} {row : Option Nat} {v : Value} {xs : List Int} (h : af (pV W) W v xs) (hg : W.grownBy W' row) (hr : ∀ r, row = some r → ¬ pV W r) : af (pV W') W' v xs := by
 have hs : ∀ b, pV W b → W'.heap[b]? = W.heap[b]? := fun b hb => hg.block b (by obtain ⟨c, z, hc⟩ := hb; exact (Array.getElem?_eq_some_iff.1 hc).1) fun e => hr b e.symm hb
 exact (af.keep h fun b hb _ => hs b hb).sub fun b hb _ => hb.same (hs b hb)
theorem Ic {base : Nat} {W : World} {v : Value} {vs : List Value} (h : ah base 26 W v vs) : ∀ r, v.ownBlock = some r → ¬ pV W r := fun r hr ⟨c, z, hc⟩ => by
 obtain ⟨c2, h9⟩ := ah.iP h hr
 rw [hc] at h9; injection h9 with h9; injection h9 with _ h9 _; exact absurd h9 (by decide)
theorem SS {t : aA} {names : List ByteArray} (h : aB t = 0) {s : List Int} : s ∈ x8 t names (eV t 0) ↔ s ∈ Al t names := by
 unfold x8 Al
 rw [List.mem_filter, List.mem_filter, List.mem_map, List.mem_map]
 constructor
 ·rintro ⟨⟨k, hk, e⟩, h2⟩
  have := (KO h).1 hk
  exact ⟨⟨k, List.mem_filter.2 ⟨List.mem_range.2 this.2, decide_eq_true this.1⟩, e⟩, h2⟩
 ·rintro ⟨⟨k, hk, e⟩, h2⟩
  obtain ⟨h3, h4⟩ := List.mem_filter.1 hk
  exact ⟨⟨k, (KO h).2 ⟨of_decide_eq_true h4, List.mem_range.1 h3⟩, e⟩, h2⟩
theorem PN {t : aA} {names : List ByteArray} (h : iz t names) {l : List (List Int)} (hp : l.Perm (x8 t names (eV t 0))) (hs : l.Pairwise fun a b => cmpL a b ≤ 0) : eF l = az t names := by
 have e := ME hp hs
 unfold az
 rw [if_pos (mW.2 h), e]
 show p9 _ = _
 exact MF fun s => SS h.te
end
section
open Go.RowKit Go.Shelf Go.Deep
theorem kQ {s : List Int} (h : cz s) : s.length ≤ 64 := by
 have h1 := dH h.fF (jb (fun _ => true) 64) (fun x hx => vB.2 (by have := h.bd x hx; exact ⟨by omega, by omega, rfl⟩))
 have h2 := ja (fun _ => true) 64
 omega
def vH (n : Int) (a b : List Int) : Int := if aF n a ≠ 0 then aF n a else aF n b
def EB (n : Int) (a b : List Int) : Bool := decide (vH n a b = 0) && dU a b
def zL (l : List (List Int)) : Int := if eC l < 0 then 0 else eC l
def zM (l : List (List Int)) : Int := if eC l < 0 then 0 else B3 l
def wL (l : List (List Int)) : Bool := decide (eC l < 0)
set_option maxHeartbeats 2000000 in
theorem Y7 (S : Nat → Prop) (w : World) (v : Value) (l : List (List Int)) (h : aJ S w v l) (ho : ∀ k, k < l.length → cz (gl l k)) (hn : l.length ≤ 1000) :
  Calls Tryz.prog 82 #[v] w fun e w' => e = .returned (.tuple #[.int .i64 (zL l), .int .i64 (zM l), .bool (wL l)]) ∧ Up w w' := by
 obtain ⟨p, cap, rfl, -, -⟩ := cN h
 have H : Hid (aJ S w (.slice p l.length cap) l) := h
 have HO := aa ho
 have ow : Hid ((∀ a, a < l.length → decide (0 ≤ dV l a) = false) → zL l = 0 ∧ zM l = 0 ∧ wL l = true) := fun hno => by
  have h1 : eC l = -1 := dP hno
  unfold zL zM wL
  rw [h1]; exact ⟨rfl, rfl, rfl⟩
 have SU : Hid (∀ i k, i < l.length → k < l.length → (∀ a, a < i → decide (0 ≤ dV l a) = false) → (∀ b, b < k → (decide (i < b) && !dU (gl l i) (gl l b)) = false) → i < k → dU (gl l i) (gl l k) = false → zL l = i ∧ zM l = k ∧ wL l = false) := fun i k hi hk h1 h2 hik hc => by
  have r : dV l i = k := fS hk h2 (by rw [decide_eq_true hik, hc]; rfl)
  have q : eC l = i := fS hi h1 (by rw [r]; exact decide_eq_true (by omega))
  have q2 : B3 l = k := by unfold B3; rw [q, Int.toNat_natCast]; exact r
  unfold zL zM wL
  rw [q, q2, if_neg (by omega), if_neg (by omega)]
  exact ⟨rfl, rfl, decide_eq_false (by omega)⟩
 have SV : Hid (∀ i, (∀ b, b < l.length → (decide (i < b) && !dU (gl l i) (gl l b)) = false) → decide (0 ≤ dV l i) = false) := fun i hno => by
  have h1 : dV l i = -1 := dP hno
  rw [h1]; rfl
 have n3 : (l.length : Int) ≤ 1000 := by omega
 clear h ho
 go_enter Tryz.func82, Tryz.ntmps82
 go_wp2_with fail
 go_loopw [5, 6, 9] (fun _ _ i wr => ∃ k : Nat, k ≤ l.length ∧ i = .int .i64 k ∧ Hid (∀ a, a < k → decide (0 ≤ dV l a) = false) ∧ Hid (Up w wr)) (fun _ _ i _ => l.length - (intOf i).toNat)
 case atStart => exact ⟨0, Nat.zero_le _, rfl, fun j hj => absurd hj (Nat.not_lt_zero _), Up.refl _⟩
 case round =>
  obtain ⟨i, hi, rfl, hd, hU⟩ := hrel
  obtain ⟨wo, rfl⟩ : ∃ wo : World, wo = wr := ⟨_, rfl⟩
  by_cases hlt : i < l.length
  ·have i1 : (0 : Int) ≤ (i : Int) := Int.natCast_nonneg _
   have i2 : (i : Int) < (l.length : Int) := Int.ofNat_lt.2 hlt
   have i3 : (i : Int) < 1000 := by omega
   go_wp2_with fail
   go_loopw [6] (fun i2 wr => ∃ k : Nat, i + 1 ≤ k ∧ k ≤ l.length ∧ i2 = .int .i64 k ∧ Hid (∀ b, b < k → (decide (i < b) && !dU (gl l i) (gl l b)) = false) ∧ Hid (Up w wr)) (fun i2 _ => l.length - (intOf i2).toNat)
   case atStart => exact ⟨i + 1, Nat.le_refl _, by omega, by go_num, fun b hb => by rw [decide_eq_false (by omega)]; rfl, hU⟩
   case round =>
    obtain ⟨k, iI, hk, rfl, hd2, jK⟩ := hrel
    obtain ⟨wq, rfl⟩ : ∃ wq : World, wq = wr := ⟨_, rfl⟩
    by_cases tS : k < l.length
    ·obtain ⟨b, off, q, c, rfl, hc, hr⟩ := dX H.out hlt
     obtain ⟨b2, off2, q2, c2, e2, hc2, hr2⟩ := dX H.out tS
     cases e2
     have dM := aa (jK.out.cell hc)
     have lC := aa (jK.out.cell hc2)
     have k1 : (0 : Int) ≤ (k : Int) := Int.natCast_nonneg _
     have k2 : (k : Int) < (l.length : Int) := Int.ofNat_lt.2 tS
     have k3 : (k : Int) < 1000 := by omega
     have si : Hid (∀ W, Up wq W → Calls Tryz.prog 156 #[.slice q (gl l i).length c, .slice q2 (gl l k).length c2] W fun e w' => e = .returned (.bool (dU (gl l i) (gl l k))) ∧ Up W w') := fun W hW =>
      Hz S W _ _ _ _ (af.keep hr ((jK.out.trans hW).kept _)) (af.keep hr2 ((jK.out.trans hW).kept _)) (HO.out i hlt) (HO.out k tS) (by have := kQ (HO.out i hlt); omega) (by have := kQ (HO.out k tS); omega)
     have aM : Hid (i < k) := by unfold Hid; omega
     clear hc hc2 hr hr2
     have aW : Hid (Up wq (wq.drewN 1)) := Up.drewN wq 1
     generalize hcb : dU (gl l i) (gl l k) = cb at *
     have tv := aa hcb
     clear hcb
     generalize (gl l i).length = x at *
     generalize (gl l k).length = y at *
     go_wp2_with fail
     go_region_held3 (fun w' => Hid (Up wq w') ∧ w'.cell? ⟨b, off + i, none⟩ = some (.slice q x c) ∧ w'.cell? ⟨b, off + k, none⟩ = some (.slice q2 y c2)) (exact ⟨aW, aW.out.cell dM.out, aW.out.cell lC.out⟩) (first
      | (go_at_call 156; refine (si.out _ aW.out).mono ?_; rintro e w9 ⟨rfl, zN⟩; have aW : Hid (Up wq w9) := aW.out.trans zN; clear zN))
     have cR : Hid (Up w _) := jK.out.trans aW.out
     clear aW si dM lC
     cases cb
     ·go_wp2_with fail
      obtain ⟨y1, y2, y3⟩ := SU.out i k hlt tS hd.out hd2.out aM.out tv.out
      exact ⟨rfl, .tuple #[.int .i64 (i : Int), .int .i64 (k : Int), .bool false], by simp [results, Tryz.results82, go_sem], by rw [y1, y2, y3], cR.out⟩
     ·go_wp2_with fail
      go_roundw
      case rel => exact ⟨k + 1, by omega, by omega, by go_num, fun b' hb' => by
       by_cases e : b' = k
       ·subst e; rw [tv.out]; simp
       ·exact hd2.out b' (by omega), cR⟩
      case measure => simp [intOf]; omega
    ·obtain rfl : k = l.length := by omega
     have HR := aa (SV.out i hd2.out)
     go_wp2_with fail
     go_roundw
     case rel => exact ⟨i + 1, by omega, by go_num, fun a ha => by
      by_cases e : a = i
      ·subst e; exact HR.out
      ·exact hd.out a (by omega), jK⟩
     case measure => simp [intOf]; omega
  ·obtain rfl : i = l.length := by omega
   obtain ⟨y1, y2, y3⟩ := ow.out hd.out
   have HY : Hid (zL l = 0 ∧ zM l = 0 ∧ wL l = true) := ⟨y1, y2, y3⟩
   clear y1 y2 y3
   go_wp2_with fail
   exact ⟨rfl, .tuple #[.int .i64 0, .int .i64 0, .bool true], by simp [results, Tryz.results82, go_sem], by rw [HY.out.1, HY.out.2.1, HY.out.2.2], hU.out⟩
def Cg (n : Int) (l : List (List Int)) : Int := if dF n l = 0 then zL l else 0
def Ch (n : Int) (l : List (List Int)) : Int := if dF n l = 0 then zM l else 0
def wM (n : Int) (l : List (List Int)) : Bool := decide (dF n l = 0) && wL l
theorem Y8 {n : Int} {l : List (List Int)} (h : dF n l ≠ 0) : Cg n l = 0 ∧ Ch n l = 0 ∧ wM n l = false := by
 unfold Cg Ch wM
 rw [if_neg h, if_neg h, decide_eq_false h]; exact ⟨rfl, rfl, rfl⟩
theorem K0 {n : Int} {l : List (List Int)} (h : dF n l = 0) : Cg n l = zL l ∧ Ch n l = zM l ∧ wM n l = wL l := by
 unfold Cg Ch wM
 rw [if_pos h, if_pos h, decide_eq_true h]; exact ⟨rfl, rfl, rfl⟩
set_option maxHeartbeats 1000000 in
theorem Ie (S : Nat → Prop) (w : World) (v u : Value) (n : Int) (a b : List Int) (h : af S w v a) (h2 : af S w u b) (hl : a.length ≤ 1000000) (hl2 : b.length ≤ 1000000) :
  Calls Tryz.prog 107 #[.int .i64 n, v, u] w fun e w' => e = .returned (.tuple #[.bool (EB n a b), .int .i64 (vH n a b)]) ∧ Up w w' := by
 have HF : Hid (vH n a b = if aF n a ≠ 0 then aF n a else aF n b) := rfl
 obtain ⟨p, cap, rfl, -, -⟩ := av.open h
 obtain ⟨p2, bJ, rfl, -, -⟩ := av.open h2
 have dM : Hid (∀ W, Up w W → Calls Tryz.prog 81 #[.int .i64 n, .slice p a.length cap] W fun e w' => e = .returned (.int .i64 (aF n a)) ∧ W = w') := fun W hW => nS S W _ n a (af.keep h (hW.kept _)) hl
 have lC : Hid (∀ W, Up w W → Calls Tryz.prog 81 #[.int .i64 n, .slice p2 b.length bJ] W fun e w' => e = .returned (.int .i64 (aF n b)) ∧ W = w') := fun W hW => nS S W _ n b (af.keep h2 (hW.kept _)) hl2
 have si : Hid (aF n a = 0 → aF n b = 0 → ∀ W, Up w W → Calls Tryz.prog 156 #[.slice p a.length cap, .slice p2 b.length bJ] W fun e w' => e = .returned (.bool (dU a b)) ∧ Up W w') := fun e1 e2 W hW => Hz S W _ _ a b (af.keep h (hW.kept _)) (af.keep h2 (hW.kept _)) (gU.1 e1).set (gU.1 e2).set hl hl2
 have hu := Up.alloc w (.cells #[.slice p a.length cap, .slice p2 b.length bJ] 26)
 have b0 := cB w (.slice p a.length cap) (.slice p2 b.length bJ) 26
 have b1 := cI w (.slice p a.length cap) (.slice p2 b.length bJ) 26
 have HU := aa hu
 have gm := aa b0
 have gz := aa b1
 clear h h2 hu b0 b1
 go_enter Tryz.func107, Tryz.ntmps107
 go_wp2_with fail
 generalize w.alloc (.cells #[.slice p a.length cap, .slice p2 b.length bJ] 26) = w1 at *
 go_loop [9, 10, 15] (fun _ _ i => ∃ k : Nat, k ≤ 2 ∧ i = .int .i64 k ∧ Hid (0 < k → aF n a = 0) ∧ Hid (1 < k → aF n b = 0)) (fun _ _ i => 2 - (intOf i).toNat)
 case atStart => exact ⟨0, Nat.zero_le _, rfl, fun h => absurd h (Nat.lt_irrefl _), fun h => absurd h (by omega)⟩
 case round =>
  obtain ⟨k, hk, rfl, hd, hd2⟩ := hrel
  have c0 := gm.out
  have c1 := gz.out
  by_cases k0 : k = 0
  ·subst k0
   have HC := aa (dM.out w1 HU.out)
   clear dM lC si
   generalize Ep : aF n a = se at *
   by_cases h0 : se = 0
   ·have HZ := aa h0
    subst h0
    go_wp2_with fail
    refine HC.out.mono ?_
    rintro e w' ⟨rfl, rfl⟩
    go_wp2_with fail
    go_round
    case rel => exact ⟨1, by omega, by go_num, fun _ => (by first | rfl | trivial), fun h => absurd h (by omega)⟩
    case measure => simp [intOf]
   ·have HZ := aa h0
    have d1 : (se == 0) = false := by simpa using h0
    have d2 : (se != 0) = true := by simpa using h0
    clear h0
    go_wp2_with fail
    refine HC.out.mono ?_
    rintro e w' ⟨rfl, rfl⟩
    go_wp2_with fail
    have he : vH n a b = se := by rw [HF.out, if_pos HZ.out]
    exact ⟨rfl, .tuple #[.bool false, .int .i64 se], by simp [results, Tryz.results107, go_sem], by rw [show EB n a b = false by unfold EB; rw [decide_eq_false (by rw [he]; exact HZ.out)]; rfl, he], HU.out⟩
  by_cases k1 : k = 1
  ·subst k1
   have HC := aa (lC.out w1 HU.out)
   have HA := aa (hd.out (by omega))
   clear dM lC si
   generalize Ep : aF n b = se at *
   by_cases h0 : se = 0
   ·have HZ := aa h0
    subst h0
    go_wp2_with fail
    refine HC.out.mono ?_
    rintro e w' ⟨rfl, rfl⟩
    go_wp2_with fail
    go_round
    case rel => exact ⟨2, by omega, by go_num, fun _ => HA.out, fun _ => (by first | rfl | trivial)⟩
    case measure => simp [intOf]
   ·have HZ := aa h0
    have d1 : (se == 0) = false := by simpa using h0
    have d2 : (se != 0) = true := by simpa using h0
    clear h0
    go_wp2_with fail
    refine HC.out.mono ?_
    rintro e w' ⟨rfl, rfl⟩
    go_wp2_with fail
    have he : vH n a b = se := by rw [HF.out, if_neg (fun e => e HA.out)]
    exact ⟨rfl, .tuple #[.bool false, .int .i64 se], by simp [results, Tryz.results107, go_sem], by rw [show EB n a b = false by unfold EB; rw [decide_eq_false (by rw [he]; exact HZ.out)]; rfl, he], HU.out⟩
  ·obtain rfl : k = 2 := by omega
   have e1 := hd.out (by omega)
   have e2 := hd2.out (by omega)
   have HE : Hid (vH n a b = 0) := by unfold Hid; rw [HF.out, if_neg (fun e => e e1)]; exact e2
   have HQ := aa (si.out e1 e2 w1 HU.out)
   clear e1 e2 c0 c1
   generalize hcb : dU a b = cb at *
   have tv := aa hcb
   clear hcb
   go_wp2_with fail
   refine HQ.out.mono ?_
   rintro e w' ⟨rfl, hu⟩
   have bU := aa (HU.out.trans hu)
   clear hu
   go_wp2_with fail
   exact ⟨rfl, .tuple #[.bool cb, .int .i64 0], by simp [results, Tryz.results107, go_sem], by rw [show EB n a b = cb by unfold EB; rw [decide_eq_true HE.out, tv.out]; rfl, HE.out], bU.out⟩
end
end Go.Proofs.YtpnmblnahjjmhaaGreat
