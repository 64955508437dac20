/- optimaltree.rooted: the texts of all rooted binary trees. The contract of slices.SortFunc .. -/
import Derived.Test.YthgabkgmkolobaaGreatQ1
import Derived.Test.YthgabkgmkolobaaGreatQ31
import Derived.Shelf.SlGeneric
import Derived.Shelf.SlSortCmp.WholeK
import Derived.Shelf.SlSortCmp.NoneTotal
import Derived.Ground.SlsfProg
import Derived.Ground.NamesProg
import Derived.Test.YthgabkgmkolobaaGreatProg
import Derived.Shelf.Bits.Mul64
set_option maxRecDepth 100000
namespace Go.Proofs.YthgabkgmkolobaaGreat
open Go.RowKit Go.Shelf Go.Deep Go.Sort
def jV (names : List ByteArray) (pre : List Dv) : List ByteArray := (pre.map (·.1)).flatMap (Cf names)
structure xm (w : World) (names : List ByteArray) (pre : List Dv) (L : Nat → Prop) (W : World) : Prop where
 up : Up w W
 sz : w.heap.size + 1 ≤ W.heap.size
 lo : ∀ b, L b → w.heap.size ≤ b
 nL : ¬ L w.heap.size
 ex : ∃ ov, W.heap[w.heap.size]? = some (Obj.cells #[ov] 22 (0, 0)) ∧ aC (w.heap.size + 1) 9 W ov ((jV names pre).map Value.string) ∧ ∀ g, ov.ownBlock = some g → ¬ L g
section
variable {w : World} {names : List ByteArray}
theorem xm.ab : Z4 (xm w names) := by
 rintro s L L' W W' h hs
 obtain ⟨ov, h1, h2, h7⟩ := h.ex
 have hsz := h.sz
 have hnl : ∀ b, b < W.heap.size → ¬ L b → ¬ L' b := fun b hb hn hb' => by
  rcases hs.more b hb' with e | e
  ·exact hn e.1
  ·omega
 refine ⟨⟨hs.os.trans h.up.os, hs.tape.trans h.up.tape, hs.output.trans h.up.output, Nat.le_trans h.up.size hs.size, fun b hb => (hs.block b (by omega) fun e => by have := h.lo b e; omega).trans (h.up.block b hb)⟩, by have := hs.size; omega, fun b hb => ?_, hnl _ (by omega) h.nL,
  ov, (hs.block _ (by omega) h.nL).trans h1, aC.Vf h2 fun b hb => hs.block b (aF h2 hb).2 (h7 b hb), fun g hg => hnl g (aF h2 hg).2 (h7 g hg)⟩
 rcases hs.more b hb with e | e
 ·exact h.lo b e.1
 ·omega
theorem xm.own {B : Nat} (hB : w.heap.size + 1 ≤ B) (L : Nat → Prop) : OwnFrom B (fun s W => xm w names s L W) := by
 intro s X Y row h hg hr
 obtain ⟨ov, h1, h2, h7⟩ := h.ex
 have hsz := h.sz
 have AH : ∀ b, b < w.heap.size + 1 → Y.heap[b]? = X.heap[b]? := fun b hb => hg.block b (by omega) fun e => by have := (hr b e.symm).1; omega
 refine ⟨⟨hg.os.trans h.up.os, hg.tape.trans h.up.tape, hg.output.trans h.up.output, Nat.le_trans h.up.size hg.size, fun b hb => (AH b (by omega)).trans (h.up.block b hb)⟩, by have := hg.size; omega, h.lo, h.nL, ov, (AH _ (by omega)).trans h1,
  aC.Vf h2 fun b hb => hg.block b (aF h2 hb).2 fun e => ?_, h7⟩
 obtain ⟨_, o, h8, h9⟩ := hr b e.symm
 obtain ⟨c, h10⟩ := aC.Iw h2 hb
 rw [h10] at h8; injection h8 with h8; subst h8; cases h9
end
structure xq (w : World) (L : Nat → Prop) (W W2 : World) (B : Nat) (wr : World) (ov : Value) (T : List ByteArray) : Prop where
 up : Up w wr
 size : W2.heap.size ≤ wr.heap.size
 keep : ∀ b, (L b ∨ (W.heap.size ≤ b ∧ b < W2.heap.size)) → wr.heap[b]? = W2.heap[b]?
 kf : ∀ k o, B ≤ k → W.heap[k]? = some o → o.isCells = false → wr.heap[k]? = some o
 box : wr.heap[w.heap.size]? = some (Obj.cells #[ov] 22 (0, 0))
 own : aC (w.heap.size + 1) 9 wr ov (T.map Value.string)
 nL : ∀ g, ov.ownBlock = some g → ¬ L g ∧ (g < W.heap.size ∨ W2.heap.size ≤ g)
section
variable {w W W2 wr X : World} {names : List ByteArray} {L : Nat → Prop} {B : Nat} {ov : Value} {T : List ByteArray} {s : ByteArray} {g cap k : Nat} {pre : List Dv} {x : Dv}
theorem xm.start (h : xm w names pre L W) (hu : Up W W2) : ∃ ov, xq w L W W2 B W2 ov (jV names pre) := by
 obtain ⟨ov, h1, h2, h7⟩ := h.ex
 have hsz := h.sz
 exact ⟨ov, ⟨h.up.trans hu, Nat.le_refl _, fun _ _ => rfl, fun k o _ hk _ => (Below.block hu k (Array.getElem?_eq_some_iff.1 hk).1).trans hk, (Below.block hu _ (by omega)).trans h1, h2.eD fun b hb => Below.block hu b (aF h2 hb).2, fun g hg => ⟨h7 g hg, .inl (aF h2 hg).2⟩⟩⟩
theorem xq.cells (h : xq w L W W2 B wr ov T) : wr.cell? ⟨w.heap.size, 0, none⟩ = some ov ∧ wr.frozen? ⟨w.heap.size, 0, none⟩ = false := by
 refine ⟨?_, ?_⟩ <;> simp [World.cell?, World.frozen?, h.box]
theorem xq.kept (h : xq w L W W2 B wr ov T) : Kept (fun b => L b ∨ (W.heap.size ≤ b ∧ b < W2.heap.size)) W2 wr := fun b hb _ => h.keep b hb
theorem xq.push (h : xq w L W W2 B wr ov T) (hw : w.heap.size < W.heap.size) (Gx : ¬ L w.heap.size) (hL : ∀ b, L b → b < wr.heap.size) (hB : w.heap.size < B) (ho : aC (w.heap.size + 1) 9 X (.slice (some ⟨g, 0, none⟩) k cap) (T.map Value.string ++ [.string s])) (hg : wr.grownBy X ov.ownBlock) (ep : ov.ownBlock = some g ∨ wr.heap.size ≤ g) :
  (X.cell? ⟨w.heap.size, 0, none⟩ = some ov ∧ X.frozen? ⟨w.heap.size, 0, none⟩ = false) ∧ xq w L W W2 B (X.setCell ⟨w.heap.size, 0, none⟩ (.slice (some ⟨g, 0, none⟩) k cap)) (.slice (some ⟨g, 0, none⟩) k cap) (T ++ [s]) := by
 have Uz : ∀ q, ov.ownBlock = some q → w.heap.size + 1 ≤ q ∧ q < wr.heap.size := fun q hq => aF h.own hq
 have hbl : w.heap.size < wr.heap.size := (Array.getElem?_eq_some_iff.1 h.box).1
 have jf : X.heap[w.heap.size]? = some (Obj.cells #[ov] 22 (0, 0)) := (hg.block _ hbl fun e => by have := (Uz _ e.symm).1; omega).trans h.box
 have cw : ∀ b, b ≠ w.heap.size → (X.setCell ⟨w.heap.size, 0, none⟩ (.slice (some ⟨g, 0, none⟩) k cap)).heap[b]? = X.heap[b]? := fun b hb => blk_setCell_other _ _ _ _ hb
 have hsz : (X.setCell ⟨w.heap.size, 0, none⟩ (.slice (some ⟨g, 0, none⟩) k cap)).heap.size = X.heap.size := by simp [World.size_setCell]
 refine ⟨by constructor <;> simp [World.cell?, World.frozen?, jf], ⟨hg.os.trans h.up.os, hg.tape.trans h.up.tape, hg.output.trans h.up.output, by rw [hsz]; exact Nat.le_trans h.up.size hg.size, fun b hb => ?_⟩, by rw [hsz]; exact Nat.le_trans h.size hg.size, fun b hb => ?_, fun q o hq hk hc => ?_, by simp [World.setCell, Array.getElem?_modify, jf], ?_, fun q hq => ?_⟩
 ·rw [cw b (by omega)]
  exact (hg.block b (by omega) fun e => by have := (Uz _ e.symm).1; omega).trans (h.up.block b hb)
 ·have hne : b ≠ w.heap.size := fun e => by
   subst e
   rcases hb with hb | hb
   ·exact Gx hb
   ·omega
  rw [cw b hne]
  refine (hg.block b ?_ fun e => ?_).trans (h.keep b hb)
  ·rcases hb with hb | hb
   ·exact hL b hb
   ·have := h.size; omega
  ·obtain ⟨n1, n2⟩ := h.nL b e.symm
   rcases hb with hb | hb
   ·exact n1 hb
   ·omega
 ·have h1 := h.kf q o hq hk hc
  rw [cw q (by omega)]
  refine (hg.block q (Array.getElem?_eq_some_iff.1 h1).1 fun e => ?_).trans h1
  obtain ⟨c, h10⟩ := aC.Iw h.own e.symm
  rw [h1] at h10; injection h10 with h10; subst h10; cases hc
 ·rw [List.map_append]
  exact ho.eD fun b hb => cw b (by have := (aF ho hb).1; omega)
 ·have hq : some g = some q := hq
  injection hq with hq; subst hq
  rcases ep with e | e
  ·exact h.nL g e
  ·exact ⟨fun hl => by have := hL g hl; omega, .inr (Nat.le_trans h.size e)⟩
theorem xq.fin (h0 : xm w names pre L W) (hu : Up W W2) (hL : ∀ b, L b → b < W.heap.size) (h : xq w L W W2 B wr ov T) (hT : T = jV names (pre ++ [x])) :
  KeepsFrom B W wr ∧ Below w.heap.size w wr ∧ (∀ b, (L b ∨ False) → wr.heap[b]? = W.heap[b]?) ∧ xm w names (pre ++ [x]) L wr := by
 have hs := hu.size
 have hs2 := h.size
 have hs0 := h0.sz
 refine ⟨⟨Nat.le_trans hs hs2, h.kf⟩, h.up, fun b hb => ?_, h.up, by omega, h0.lo, h0.nL, ov, h.box, by rw [← hT]; exact h.own, fun g hg => (h.nL g hg).1⟩
 have hb : L b := hb.resolve_right id
 exact (h.keep b (.inl hb)).trans (Below.block hu b (hL b hb))
end
def Dm (S : Nat → Prop) (w : World) (names : List ByteArray) (e : Ending) (w' : World) : Prop := Up w w' ∧ ∃ v, e = .returned v ∧ ah (fun b => S b ∨ w.heap.size ≤ b) w' v (bD names)
theorem SS (names : List ByteArray) (pre : List Dv) (x : Dv) : jV names (pre ++ [x]) = jV names pre ++ Cf names x.1 := by
 unfold jV; rw [List.map_append, List.flatMap_append]; simp
def qc (names : List ByteArray) (bits n : Nat) : List ByteArray := ((bD (dA names bits)).take n).flatMap fun s => (bD (dB names bits)).map fun t => pairT s t
theorem SU (names : List ByteArray) (bits : Nat) {n : Nat} (h : n < (bD (dA names bits)).length) : qc names bits (n + 1) = qc names bits n ++ (bD (dB names bits)).map fun t => pairT (gs (bD (dA names bits)) n) t := by
 have hg : gs (bD (dA names bits)) n = (bD (dA names bits))[n] := by simp [gs, h]
 unfold qc
 rw [List.take_succ_eq_append_getElem h, List.flatMap_append, hg]; simp
theorem Wl (names : List ByteArray) (bits : Nat) : qc names bits (bD (dA names bits)).length = Cf names bits := by unfold qc Cf; rw [List.take_length]
set_option maxHeartbeats 8000000 in
theorem SV : ∀ (d : Nat) (names : List ByteArray), names.length ≤ d → 1 ≤ names.length → names.length ≤ 4 → (∀ x ∈ names, x.size ≤ 20) → ∀ (S : Nat → Prop) (w : World) (v : Value), ah S w v names → Calls Tryz.prog 120 #[v] w (Dm S w names) := by
 intro d
 induction d with
 | zero => intro names h1 h2; omega
 | succ d ih =>
 intro names hd h1 h4 hz S w v h
 obtain ⟨mp, mc, rfl, -, -⟩ := aB.open h
 have h : ah S w (.slice mp names.length mc) names := h
 by_cases hone : names.length = 1
 ·have d1 : ((names.length : Int) == 1) = true := by rw [hone]; rfl
  have hrt : bD names = names := by
   obtain ⟨x, rfl⟩ := List.length_eq_one_iff.1 hone
   exact Wh x
  have HX : Hid (Dm S w names (.returned (.slice mp names.length mc)) w) := ⟨Up.refl _, _, rfl, by rw [hrt]; exact h.sub fun b hb _ => .inl hb⟩
  clear h hrt hone ih
  go_enter Tryz.func120, Tryz.ntmps120
  go_wp2_with fail
  go_ret
  exact HX.out
 have d1 : ((names.length : Int) == 1) = false := beq_eq_false_iff_ne.2 (by omega)
 have h2 : 2 ≤ names.length := by omega
 have js := aa ih
 have HH := aa h
 have HZ := aa hz
 have HD := aa hd
 clear ih h hz hd h1 hone
 refine (callsIn_wide (n := 9)).1 ?_
 refine callsIn_of_wp_marks Tryz.func120 rfl trivial ?_
 simp only [Tryz.ntmps120, List.size_toArray, List.length_cons, List.length_nil, Nat.reduceAdd, Nat.reduceSub, Array.replicate_succ, Array.replicate_zero, List.push_toArray, List.append_toArray, List.nil_append, List.cons_append]
 have hb1 := blk_alloc_new w (.cells #[.slice none 0 0] 22)
 have aR := Up.alloc w (.cells #[.slice none 0 0] 22)
 have hs1 : (w.alloc (.cells #[.slice none 0 0] 22)).heap.size = w.heap.size + 1 := by simp
 have gm := aa hb1
 have bH := aa aR
 have jT := aa hs1
 clear hb1 aR hs1
 gi_wp2_with fail
 generalize w.alloc (.cells #[.slice none 0 0] 22) = w1 at *
 refine ⟨trivial, (callsIn_wide.2 (Kj w1 _ _ _)).mono ?_⟩
 rintro e w9 ⟨rfl, Vk⟩
 have iH : Up w1 w9 := by rw [Vk]; exact Up.alloc _ _
 have Lx : w9.heap.size = w1.heap.size + 1 := by rw [Vk]; simp
 have Lz := xP w1 (.slice mp names.length mc) 22
 rw [← Vk] at Lz
 have ID : ah Any w (.slice mp names.length mc) names := HH.out.sub fun _ _ _ => trivial
 have hseq := SR (w0 := w) (w9 := w9) (Bt := w1.heap.size) (N := 8) 8 h2 h4 (by rw [jT.out]; omega) Lz ID (by
  have : 2 ^ (names.length - 1) ≤ 2 ^ 3 := Nat.pow_le_pow_right (by decide) (by omega)
  omega)
 have hI0 : xm w names [] (fun b => b = w1.heap.size) w9 := ⟨bH.out.trans iH, by rw [Lx, jT.out]; omega, fun b hb => by rw [hb, jT.out]; omega, by rw [jT.out]; omega, .slice none 0 0, (Below.block iH _ (by rw [jT.out]; omega)).trans gm.out, aC.nil _ _ _, fun g hg => by cases hg⟩
 have H9 : Hid (w9.heap.size = w.heap.size + 2) := by unfold Hid; rw [Lx, jT.out]
 have HS1' := aa jT.out
 clear Vk iH Lx Lz ID gm
 gi_wp2_with fail
 apply Ki (F := Fence.wide) (n := 9) (P := Tryz.prog) (ps := #[17, 18]) (w := w9) rfl (by omega) (gf := 215) (lb := #[.pointer (some ⟨w1.heap.size, 0, none⟩)]) rfl trivial (enters_of Tryz.func215 (by kernel_rfl) rfl)
  hseq (fun b hb => by have := H9.out; have := jT.out; omega) (fun x L W b h1 h2 => h2.elim) hI0.up (fun _ => rfl) (fun x L => Wk x L)
  (xm w names) xm.ab (xm.own (by have := H9.out; omega)) hI0
 ·intro l x W K hK
  gi_wp2_with (rw [Oper.semAt_eq _ _ _ (fun c h => by cases h)]; go_simp; try go_bits)
  exact hK
 ·rintro l pre ⟨bits, va, vb⟩ L W hI hG kj Lt hlen
  obtain ⟨⟨g1, g2⟩, ga, gb⟩ := hG
  dsimp only at g1 g2 ga gb
  obtain ⟨l1, l2, l3, l4⟩ := M6 h2 g1 g2
  have hma := (M7 (L := names) (bits := bits) (by omega)).1
  have hmb := (M7 (L := names) (bits := bits) (by omega)).2
  have II : ∀ x ∈ dA names bits, x.size ≤ 20 := fun x hx => HZ.out x (hma x hx)
  have hzb : ∀ x ∈ dB names bits, x.size ≤ 20 := fun x hx => HZ.out x (hmb x hx)
  have yg : Hid ((bD (dA names bits)).length ≤ 15 ∧ ∀ k, (gs (bD (dA names bits)) k).size ≤ 100) := ⟨ry (by omega), gI fun x hx => wu (by omega) II hx⟩
  have B1 : Hid ((bD (dB names bits)).length ≤ 15 ∧ ∀ k, (gs (bD (dB names bits)) k).size ≤ 100) := ⟨ry (by omega), gI fun x hx => wu (by omega) hzb hx⟩
  have hpf : (jV names pre).length ≤ 8 * 225 := by
   unfold jV
   have h1 := mI (f := Cf names) (K := 225) (pre.map (·.1)) fun b _ => by
    have p1 := jv (fun i => !b.testBit i) names.tail (names.length - 1)
    have p2 := jv (fun i => b.testBit i) names.tail (names.length - 1)
    exact Wj (by unfold dA; simp only [List.length_cons]; omega) (by unfold dB; omega)
   rw [List.length_map] at h1
   exact Nat.le_trans h1 (Nat.mul_le_mul_right _ (by omega))
  have HPF := aa hpf
  have gj := aa (js.out (dB names bits) (by have := HD.out; omega) l4 (by omega) hzb L W vb gb)
  have Ci : Hid (∀ W1, Up W W1 → Calls Tryz.prog 120 #[va] W1 (Dm L W1 (dA names bits))) := fun W1 hW => js.out (dA names bits) (by have := HD.out; omega) l2 (by omega) II L W1 va (ah.keep ga (hW.kept _))
  have HI := aa hI
  have dQ : Hid (∀ b, L b → b < W.heap.size) := fun b hb => (Lt b hb).2
  clear hI ga gb kj Lt hlen hma hmb II hzb l1 l2 l3 l4 g1 g2 hpf hseq hI0
  dsimp only
  gi_wp2_with (rw [Oper.semAt_eq _ _ _ (fun c h => by cases h)]; go_simp; try go_bits)
  refine ⟨trivial, (callsIn_wide.2 gj.out).mono ?_⟩
  rintro e W1 ⟨aR, sb, rfl, oa⟩
  have ES := aa aR
  clear aR gj
  gi_wp2_with (rw [Oper.semAt_eq _ _ _ (fun c h => by cases h)]; go_simp; try go_bits)
  refine ⟨trivial, (callsIn_wide.2 (Ci.out W1 ES.out)).mono ?_⟩
  rintro e W2 ⟨aG, sa, rfl, uH⟩
  have hs1 := ES.out.size
  have hs2 := aG.size
  have bY : Hid (ah (fun b => L b ∨ (W.heap.size ≤ b ∧ b < W2.heap.size)) W2 sb (bD (dB names bits))) := (ah.keep oa (aG.kept _)).sub fun b hb hl => hb.imp id fun e => ⟨e, hl⟩
  have iV : Hid (ah (fun b => L b ∨ (W.heap.size ≤ b ∧ b < W2.heap.size)) W2 sa (bD (dA names bits))) := uH.sub fun b hb hl => hb.imp id fun e => ⟨by omega, hl⟩
  have bw := aa (ES.out.trans aG)
  obtain ⟨ov0, hR0⟩ := HI.out.start (B := w9.heap.size) bw.out
  have Cj := aa hR0
  obtain ⟨ap, ac, rfl, -, -⟩ := aB.open iV.out
  obtain ⟨bp, bc, rfl, -, -⟩ := aB.open bY.out
  have iV : Hid (ah (fun b => L b ∨ (W.heap.size ≤ b ∧ b < W2.heap.size)) W2 (.slice ap (bD (dA names bits)).length ac) (bD (dA names bits))) := iV.out
  have bY : Hid (ah (fun b => L b ∨ (W.heap.size ≤ b ∧ b < W2.heap.size)) W2 (.slice bp (bD (dB names bits)).length bc) (bD (dB names bits))) := bY.out
  have PX : Hid (w.heap.size < W.heap.size ∧ ¬ L w.heap.size ∧ w.heap.size < w9.heap.size ∧ ∀ b, L b → b < W2.heap.size) := ⟨HI.out.sz, HI.out.nL, by have := H9.out; omega, fun b hb => by have := dQ.out b hb; omega⟩
  have uI : Hid (jV names pre = jV names pre ++ qc names bits 0) := by unfold Hid qc; simp
  rw [uI.out] at Cj
  clear aG uH oa hs1 hs2 hR0 Ci ES uI
  gi_wp2_with (rw [Oper.semAt_eq _ _ _ (fun c h => by cases h)]; go_simp; try go_bits)
  gi_loopw [8, 10, 24] (fun _ _ i wr => ∃ (n : Nat) (ov : Value), n ≤ (bD (dA names bits)).length ∧ i = .int .i64 n ∧ Hid (xq w L W W2 w9.heap.size wr ov (jV names pre ++ qc names bits n))) (fun _ _ i _ => (bD (dA names bits)).length - (intOf i).toNat)
  case atStart => exact ⟨0, _, Nat.zero_le _, rfl, Cj.out⟩
  case round =>
   obtain ⟨n, ov, hn, rfl, hR⟩ := hrel
   obtain ⟨wo, rfl⟩ : ∃ wo : World, wo = wr := ⟨_, rfl⟩
   have i0 : (0 : Int) ≤ (n : Int) := by omega
   by_cases hlt : n < (bD (dA names bits)).length
   ·obtain ⟨ab, ao, rfl, hca⟩ := bz (ah.keep iV.out hR.out.kept) hlt
    have i1 : (n : Int) < ((bD (dA names bits)).length : Int) := by omega
    have i2 : (n : Int) < 16 := by have := yg.out.1; omega
    have aV := aa hlt
    have O6 := aa (SU names bits hlt)
    have HR := aa hR.out
    have HZN : Hid ((gs (bD (dA names bits)) n).size ≤ 100) := yg.out.2 n
    generalize gs (bD (dA names bits)) n = sn at *
    clear hR hlt
    gi_wp2_with (rw [Oper.semAt_eq _ _ _ (fun c h => by cases h)]; go_simp; try go_bits)
    gi_loopw [10, 30] (fun _ i wr => ∃ (m : Nat) (ov : Value), m ≤ (bD (dB names bits)).length ∧ i = .int .i64 m ∧ Hid (xq w L W W2 w9.heap.size wr ov ((jV names pre ++ qc names bits n) ++ ((bD (dB names bits)).take m).map fun t => pairT sn t))) (fun _ i _ => (bD (dB names bits)).length - (intOf i).toNat)
    case atStart => exact ⟨0, _, Nat.zero_le _, rfl, by rw [List.take_zero, List.map_nil, List.append_nil]; exact HR.out⟩
    case round =>
     obtain ⟨m, ov2, hm, rfl, DU⟩ := hrel
     obtain ⟨wi, rfl⟩ : ∃ wi : World, wi = wr := ⟨_, rfl⟩
     have j0 : (0 : Int) ≤ (m : Int) := by omega
     by_cases hlm : m < (bD (dB names bits)).length
     ·obtain ⟨bb, bo, rfl, hcb⟩ := bz (ah.keep bY.out DU.out.kept) hlm
      have j1 : (m : Int) < ((bD (dB names bits)).length : Int) := by omega
      have j2 : (m : Int) < 16 := by have := B1.out.1; omega
      have IJ := aa hlm
      have yN := aa DU.out
      have gL := DU.out.cells.1
      have gV : Hid (((bD (dB names bits)).take (m + 1)).map (fun t => pairT sn t) = ((bD (dB names bits)).take m).map (fun t => pairT sn t) ++ [pairT sn (gs (bD (dB names bits)) m)]) := by
       unfold Hid
       rw [List.take_succ_eq_append_getElem hlm, List.map_append]
       simp [gs, hlm]
      have z1 := HZN.out
      have z2 : (gs (bD (dB names bits)) m).size ≤ 100 := B1.out.2 m
      have mR : Hid ((((jV names pre ++ qc names bits n) ++ ((bD (dB names bits)).take m).map fun t => pairT sn t).map Value.string).length ≤ 1000000) := by
       have h1 := HPF.out
       have h2 := B1.out.1
       have h3 := yg.out.1
       have h4 : (qc names bits n).length ≤ 15 * 15 := by
        unfold qc
        have q := mI (f := fun s => (bD (dB names bits)).map fun t => pairT s t) (K := 15) ((bD (dA names bits)).take n) fun s _ => by rw [List.length_map]; exact h2
        rw [List.length_take] at q
        exact Nat.le_trans q (Nat.mul_le_mul_right _ (by omega))
       unfold Hid
       simp only [List.length_map, List.length_append, List.length_take]
       omega
      generalize gs (bD (dB names bits)) m = tm at *
      obtain ⟨T, hT⟩ : ∃ T, T = (jV names pre ++ qc names bits n) ++ ((bD (dB names bits)).take m).map fun t => pairT sn t := ⟨_, rfl⟩
      rw [← hT] at yN mR
      have HT : Hid ((jV names pre ++ qc names bits n) ++ ((bD (dB names bits)).take (m + 1)).map (fun t => pairT sn t) = T ++ [pairT sn tm]) := by
       unfold Hid; rw [gV.out, ← List.append_assoc, ← hT]
      obtain ⟨oq, oc, IK, -⟩ := yN.out.own.form (n := T.length) (by simp)
      subst IK
      have PJ : Hid (w9.heap.size ≤ w9.heap.size ∧ w.heap.size + 1 ≤ wi.heap.size) := ⟨Nat.le_refl _, by have h1 := yN.out.size; have h2 := bw.out.size; have h3 := PX.out.1; omega⟩
      clear DU hlm hm hT gV
      gi_wp2_with (first
       | (gi_at_builtin; refine qu wi rfl _ _ 22 rfl (w.heap.size + 1) 9 (.string ⟨#[]⟩) 16 Tryz.underlying22 Tryz.fo rfl (by decide) yN.out.own rfl _ rfl rfl T.length (List.length_map _) (by have h := mR.out; rw [List.length_map] at h; exact h) PJ.out.2 ?_; intro g8 gW w8 bU cG fq; obtain ⟨⟨ZL, hf8⟩, hP8⟩ := yN.out.push (s := pairT sn tm) PX.out.1 PX.out.2.1 (fun b hb => Nat.lt_of_lt_of_le (PX.out.2.2.2 b hb) yN.out.size) PX.out.2.2.1 bU cG fq; have ZV := aa hP8; clear bU cG fq hP8)
       | (rw [Oper.semAt_eq _ _ _ (fun c h => by cases h)]; go_simp; try go_bits))
      go_roundw
      case rel => exact ⟨m + 1, _, IJ.out, by go_num, by rw [HT.out]; exact ZV.out⟩
      case measure => have := IJ.out; simp [intOf]; omega
     ·obtain rfl : m = (bD (dB names bits)).length := by omega
      have HKE : Hid (jV names pre ++ qc names bits (n + 1) = (jV names pre ++ qc names bits n) ++ ((bD (dB names bits)).take (bD (dB names bits)).length).map fun t => pairT sn t) := by
       unfold Hid; rw [O6.out, List.take_length, List.append_assoc]
      gi_wp2_with (rw [Oper.semAt_eq _ _ _ (fun c h => by cases h)]; go_simp; try go_bits)
      go_roundw
      case rel => exact ⟨n + 1, _, aV.out, by go_num, by rw [HKE.out]; exact DU.out⟩
      case measure => have := aV.out; simp [intOf]; omega
   ·obtain rfl : n = (bD (dA names bits)).length := by omega
    have sj : Hid (jV names pre ++ qc names bits (bD (dA names bits)).length = jV names (pre ++ [(bits, va, vb)])) := by
     unfold Hid; rw [Wl, SS]
    gi_wp2_with (rw [Oper.semAt_eq _ _ _ (fun c h => by cases h)]; go_simp; try go_bits)
    exact hR.out.fin HI.out bw.out dQ.out sj.out
 ·intro D xs L W hD hS hI hK
  obtain ⟨ov, e1, e2, e3⟩ := hI.ex
  obtain ⟨oq, oc, rfl, -⟩ := e2.form (n := (jV names xs).length) (by simp)
  have Yo : W.cell? ⟨w.heap.size, 0, none⟩ = some (.slice oq (jV names xs).length oc) := by simp [World.cell?, e1]
  have HK := aa hK
  have tI := aa e2
  have HI := aa hI
  have HT : Hid (jV names xs = bD names) := by unfold Hid jV; rw [hS, Z8 h2]
  clear e1 e2 e3 hI hS hK hseq hI0
  gi_wp2_with fail
  have hq : ∀ b, b ≠ D → (W.putObj D (.deferred none)).heap[b]? = W.heap[b]? := fun b hb => World.putObj_heap_other hb
  have hu := HI.out.up
  have h9 := H9.out
  have hne : ∀ b, (Value.slice oq (jV names xs).length oc).ownBlock = some b → b ≠ D := fun b hb e => by
   subst e
   obtain ⟨c, h10⟩ := aC.Iw tI.out hb
   rw [HK.out] at h10; injection h10 with h10; cases h10
  refine ⟨by simp, .inl ⟨_, _, rfl, run_takeDeferred HK.out, ?_⟩⟩
  refine ⟨.slice oq (jV names xs).length oc, by simp [results, Tryz.results120, go_sem], ⟨hu.os, hu.tape, hu.output, by have h := hu.size; simpa using h, fun b hb => (hq b (by omega)).trans (hu.block b hb)⟩, _, rfl, ?_⟩
  have h3 := tI.out.eD fun b hb => hq b (hne b hb)
  rw [← HT.out]
  exact h3.strs.sub fun b hb _ => .inr (by omega)
end Go.Proofs.YthgabkgmkolobaaGreat
namespace Go.Proofs
open Go.Shelf
def Tryz.sortEnt_ren : Go.Shelf.Ren := ⟨fun | 6 => 122 | 15 => 127 | 14 => 167 | 28 => 181 | 29 => 182 | 20 => 221 | 21 => 222 | 22 => 223 | 23 => 224 | 24 => 225 | 25 => 226 | 26 => 227 | 27 => 228 | 46 => 265 | 47 => 235 | 48 => 236 | 49 => 266 | 50 => 267 | 57 => 278 | n => n, fun | 22 => 91 | 24 => 96 | 25 => 150 | 3 => 3 | 39 => 154 | 0 => 0 | 53 => 191 | 55 => 193 | 4 => 4 | 46 => 183 | 45 => 182 | 50 => 188 | 5 => 5 | 9 => 9 | 66 => 238 | 70 => 242 | 76 => 267 | 77 => 177 | n => n, fun | n => n⟩
theorem Tryz.sortEnt : Go.Proofs.SlLaysF0.n6 Tryz.prog Tryz.sortEnt_ren := {
 mixed := by kernel_rfl
 f6 := ⟨Tryz.f122.name, by decide, Tryz.func122.trans (congrArg some (by kernel_rfl))⟩
 f14 := ⟨Tryz.f167.name, by decide, Tryz.func167.trans (congrArg some (by kernel_rfl))⟩
 f15 := Tryz.func127.trans (congrArg some (by kernel_rfl))
 f20 := ⟨Tryz.f221.name, by decide, Tryz.func221.trans (congrArg some (by kernel_rfl))⟩
 f21 := ⟨Tryz.f222.name, by decide, Tryz.func222.trans (congrArg some (by kernel_rfl))⟩
 f22 := ⟨Tryz.f223.name, by decide, Tryz.func223.trans (congrArg some (by kernel_rfl))⟩
 f23 := ⟨Tryz.f224.name, by decide, Tryz.func224.trans (congrArg some (by kernel_rfl))⟩
 f24 := ⟨Tryz.f225.name, by decide, Tryz.func225.trans (congrArg some (by kernel_rfl))⟩
 f25 := ⟨Tryz.f226.name, by decide, Tryz.func226.trans (congrArg some (by kernel_rfl))⟩
 f26 := ⟨Tryz.f227.name, by decide, Tryz.func227.trans (congrArg some (by kernel_rfl))⟩
 f27 := ⟨Tryz.f228.name, by decide, Tryz.func228.trans (congrArg some (by kernel_rfl))⟩
 f28 := Tryz.func181.trans (congrArg some (by kernel_rfl))
 f29 := Tryz.func182.trans (congrArg some (by kernel_rfl))
 f46 := ⟨Tryz.f265.name, by decide, Tryz.func265.trans (congrArg some (by kernel_rfl))⟩
 f47 := Tryz.func235.trans (congrArg some (by kernel_rfl))
 f48 := Tryz.func236.trans (congrArg some (by kernel_rfl))
 f49 := ⟨Tryz.f266.name, by decide, Tryz.func266.trans (congrArg some (by kernel_rfl))⟩
 f50 := ⟨Tryz.f267.name, by decide, Tryz.func267.trans (congrArg some (by kernel_rfl))⟩
 f57 := ⟨Tryz.f278.name, by decide, Tryz.func278.trans (congrArg some (by kernel_rfl))⟩
 t0 := Tryz.underlying0
 a0 := Tryz.isAgg0
 z0 := Tryz.sizeOf0
 v0 := Tryz.zeroValue0
 t3 := Tryz.underlying3
 a3 := Tryz.isAgg3
 z3 := Tryz.sizeOf3
 v3 := Tryz.zeroValue3
 t4 := Tryz.underlying4
 a4 := Tryz.isAgg4
 z4 := Tryz.sizeOf4
 v4 := Tryz.zeroValue4
 t5 := Tryz.underlying5
 a5 := Tryz.isAgg5
 z5 := Tryz.sizeOf5
 v5 := Tryz.zeroValue5
 t9 := Tryz.underlying9
 a9 := Tryz.isAgg9
 z9 := Tryz.sizeOf9
 v9 := Tryz.zeroValue9
 t22 := Tryz.underlying91
 a22 := Tryz.isAgg91
 z22 := Tryz.sizeOf91
 v22 := Tryz.zeroValue91
 t25 := Tryz.underlying150
 a25 := Tryz.isAgg150
 z25 := Tryz.sizeOf150
 v25 := Tryz.zeroValue150
 t39 := Tryz.underlying154
 a39 := Tryz.isAgg154
 z39 := Tryz.sizeOf154
 v39 := Tryz.zeroValue154
 t45 := Tryz.underlying182
 a45 := Tryz.isAgg182
 z45 := Tryz.sizeOf182
 v45 := Tryz.zeroValue182
 t46 := Tryz.underlying183
 a46 := Tryz.isAgg183
 z46 := Tryz.sizeOf183
 v46 := Tryz.zeroValue183
 t50 := Tryz.underlying188
 a50 := Tryz.isAgg188
 z50 := Tryz.sizeOf188
 v50 := Tryz.zeroValue188
 t53 := Tryz.underlying191
 a53 := Tryz.isAgg191
 z53 := Tryz.sizeOf191
 v53 := Tryz.zeroValue191
 t55 := Tryz.underlying193
 a55 := Tryz.isAgg193
 z55 := Tryz.sizeOf193
 v55 := Tryz.zeroValue193
 t66 := Tryz.underlying238
 a66 := Tryz.isAgg238
 z66 := Tryz.sizeOf238
 v66 := Tryz.zeroValue238
 t70 := Tryz.underlying242
 a70 := Tryz.isAgg242
 z70 := Tryz.sizeOf242
 v70 := Tryz.zeroValue242
 t76 := Tryz.underlying267
 a76 := Tryz.isAgg267
 z76 := Tryz.sizeOf267
 v76 := Tryz.zeroValue267
 t77 := Tryz.underlying177
 a77 := Tryz.isAgg177
 z77 := Tryz.sizeOf177
 v77 := Tryz.zeroValue177 }
end Go.Proofs
namespace Go.Proofs
open Go.Shelf
def Tryz.lays212_ren : Go.Shelf.Ren := ⟨fun | 212 => 269 | 263 => 279 | 264 => 280 | n => n, fun | 46 => 154 | 51 => 191 | 53 => 193 | 146 => 275 | 148 => 277 | n => n, fun | n => n⟩
theorem Tryz.lays212 : Go.Proofs.Lays.n212 Tryz.prog Tryz.lays212_ren := {
 mixed := by kernel_rfl
 f212 := Tryz.func269.trans (congrArg some (by kernel_rfl))
 f263 := Tryz.func279.trans (congrArg some (by kernel_rfl))
 f264 := Tryz.func280.trans (congrArg some (by kernel_rfl))
 t46 := Tryz.underlying154
 a46 := Tryz.isAgg154
 z46 := Tryz.sizeOf154
 v46 := Tryz.zeroValue154
 t51 := Tryz.underlying191
 a51 := Tryz.isAgg191
 z51 := Tryz.sizeOf191
 v51 := Tryz.zeroValue191
 t53 := Tryz.underlying193
 a53 := Tryz.isAgg193
 z53 := Tryz.sizeOf193
 v53 := Tryz.zeroValue193
 t146 := Tryz.underlying275
 a146 := Tryz.isAgg275
 z146 := Tryz.sizeOf275
 v146 := Tryz.zeroValue275
 t148 := Tryz.underlying277
 a148 := Tryz.isAgg277
 z148 := Tryz.sizeOf277
 v148 := Tryz.zeroValue277 }
theorem Tryz.bits_Mul (x y : Nat) (hx : x < 18446744073709551616) (hy : y < 18446744073709551616) (w : World) :
  Calls Tryz.prog 269 #[.int .u64 x, .int .u64 y] w fun e w' => e = .returned (.tuple #[.int .u64 ((x * y / 18446744073709551616 : Nat) : Int), .int .u64 ((x * y % 18446744073709551616 : Nat) : Int)]) ∧ w' = w := Any.bits_Mul Tryz.lays212 x y hx hy w
end Go.Proofs
