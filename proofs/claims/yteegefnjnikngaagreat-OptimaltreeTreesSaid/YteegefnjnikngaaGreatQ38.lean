/- optimaltree.rooted: the texts of all rooted binary trees. The contract of slices.SortFunc .. -/
import Derived.Test.YteegefnjnikngaaGreatQ1
import Derived.Test.YteegefnjnikngaaGreatQ37
import Derived.Shelf.SlGeneric
import Derived.Shelf.SlSortCmp.WholeK
import Derived.Shelf.SlSortCmp.NoneTotal
import Derived.Ground.SlsfProg
import Derived.Ground.NamesProg
import Derived.Test.YteegefnjnikngaaGreatProg
import Derived.Test.YteegefnjnikngaaGreatQ36
import Derived.RangeFuncLeaves
import Derived.Test.YteegefnjnikngaaGreatQ19
import Derived.Test.YteegefnjnikngaaGreatQ17
import Derived.Test.YteegefnjnikngaaGreatQ34
import Derived.Test.YteegefnjnikngaaGreatQ3
set_option maxRecDepth 100000
namespace Go.Proofs.YteegefnjnikngaaGreat
open Go.RowKit Go.Shelf Go.Deep Go.Sort
def iP (names : List ByteArray) (pre : List Dv) : List ByteArray := (pre.map (·.1)).flatMap (y9 names)
structure tJ (w : World) (names : List ByteArray) (pre : List Dv) (L : Nat → Prop) (W : World) : Prop where
 up : Up w W
 sz : w.heap.size + 1 ≤ W.heap.size
 lo : ∀ b, L b → w.heap.size ≤ b
 nL : ¬ L w.heap.size
 ex : ∃ ov, W.heap[w.heap.size]? = some (Obj.cells #[ov] 22 (0, 0)) ∧ az (w.heap.size + 1) 9 W ov ((iP names pre).map Value.string) ∧ ∀ g, ov.ownBlock = some g → ¬ L g
section
variable {w : World} {names : List ByteArray}
theorem tJ.ab : Vd (tJ w names) := by
 rintro s L L' W W' h hs
 obtain ⟨ov, h1, h2, h7⟩ := h.ex
 have hsz := h.sz
 have hnl : ∀ b, b < W.heap.size → ¬ L b → ¬ L' b := fun b hb hn hb' => by
  rcases hs.more b hb' with e | e
  ·exact hn e.1
  ·omega
 refine ⟨⟨hs.os.trans h.up.os, hs.tape.trans h.up.tape, hs.output.trans h.up.output, Nat.le_trans h.up.size hs.size, fun b hb => (hs.block b (by omega) fun e => by have := h.lo b e; omega).trans (h.up.block b hb)⟩, by have := hs.size; omega, fun b hb => ?_, hnl _ (by omega) h.nL,
  ov, (hs.block _ (by omega) h.nL).trans h1, az.PZ h2 fun b hb => hs.block b (aD h2 hb).2 (h7 b hb), fun g hg => hnl g (aD h2 hg).2 (h7 g hg)⟩
 rcases hs.more b hb with e | e
 ·exact h.lo b e.1
 ·omega
theorem tJ.own {B : Nat} (hB : w.heap.size + 1 ≤ B) (L : Nat → Prop) : OwnFrom B (fun s W => tJ w names s L W) := by
 intro s X Y row h hg hr
 obtain ⟨ov, h1, h2, h7⟩ := h.ex
 have hsz := h.sz
 have xD : ∀ b, b < w.heap.size + 1 → Y.heap[b]? = X.heap[b]? := fun b hb => hg.block b (by omega) fun e => by have := (hr b e.symm).1; omega
 refine ⟨⟨hg.os.trans h.up.os, hg.tape.trans h.up.tape, hg.output.trans h.up.output, Nat.le_trans h.up.size hg.size, fun b hb => (xD b (by omega)).trans (h.up.block b hb)⟩, by have := hg.size; omega, h.lo, h.nL, ov, (xD _ (by omega)).trans h1,
  az.PZ h2 fun b hb => hg.block b (aD h2 hb).2 fun e => ?_, h7⟩
 obtain ⟨_, o, h8, h9⟩ := hr b e.symm
 obtain ⟨c, h10⟩ := az.ED h2 hb
 rw [h10] at h8; injection h8 with h8; subst h8; cases h9
end
structure tK (w : World) (L : Nat → Prop) (W W2 : World) (B : Nat) (wr : World) (ov : Value) (T : List ByteArray) : Prop where
 up : Up w wr
 size : W2.heap.size ≤ wr.heap.size
 keep : ∀ b, (L b ∨ (W.heap.size ≤ b ∧ b < W2.heap.size)) → wr.heap[b]? = W2.heap[b]?
 kf : ∀ k o, B ≤ k → W.heap[k]? = some o → o.isCells = false → wr.heap[k]? = some o
 box : wr.heap[w.heap.size]? = some (Obj.cells #[ov] 22 (0, 0))
 own : az (w.heap.size + 1) 9 wr ov (T.map Value.string)
 nL : ∀ g, ov.ownBlock = some g → ¬ L g ∧ (g < W.heap.size ∨ W2.heap.size ≤ g)
section
variable {w W W2 wr X : World} {names : List ByteArray} {L : Nat → Prop} {B : Nat} {ov : Value} {T : List ByteArray} {s : ByteArray} {g cap k : Nat} {pre : List Dv} {x : Dv}
theorem tJ.start (h : tJ w names pre L W) (hu : Up W W2) : ∃ ov, tK w L W W2 B W2 ov (iP names pre) := by
 obtain ⟨ov, h1, h2, h7⟩ := h.ex
 have hsz := h.sz
 exact ⟨ov, ⟨h.up.trans hu, Nat.le_refl _, fun _ _ => rfl, fun k o _ hk _ => (Below.block hu k (Array.getElem?_eq_some_iff.1 hk).1).trans hk, (Below.block hu _ (by omega)).trans h1, h2.eV fun b hb => Below.block hu b (aD h2 hb).2, fun g hg => ⟨h7 g hg, .inl (aD h2 hg).2⟩⟩⟩
theorem tK.cells (h : tK w L W W2 B wr ov T) : wr.cell? ⟨w.heap.size, 0, none⟩ = some ov ∧ wr.frozen? ⟨w.heap.size, 0, none⟩ = false := by
 refine ⟨?_, ?_⟩ <;> simp [World.cell?, World.frozen?, h.box]
theorem tK.kept (h : tK w L W W2 B wr ov T) : Kept (fun b => L b ∨ (W.heap.size ≤ b ∧ b < W2.heap.size)) W2 wr := fun b hb _ => h.keep b hb
theorem tK.push (h : tK w L W W2 B wr ov T) (hw : w.heap.size < W.heap.size) (Dh : ¬ L w.heap.size) (hL : ∀ b, L b → b < wr.heap.size) (hB : w.heap.size < B) (ho : az (w.heap.size + 1) 9 X (.slice (some ⟨g, 0, none⟩) k cap) (T.map Value.string ++ [.string s])) (hg : wr.grownBy X ov.ownBlock) (dw : ov.ownBlock = some g ∨ wr.heap.size ≤ g) :
  (X.cell? ⟨w.heap.size, 0, none⟩ = some ov ∧ X.frozen? ⟨w.heap.size, 0, none⟩ = false) ∧ tK w L W W2 B (X.setCell ⟨w.heap.size, 0, none⟩ (.slice (some ⟨g, 0, none⟩) k cap)) (.slice (some ⟨g, 0, none⟩) k cap) (T ++ [s]) := by
 have Pg : ∀ q, ov.ownBlock = some q → w.heap.size + 1 ≤ q ∧ q < wr.heap.size := fun q hq => aD h.own hq
 have hbl : w.heap.size < wr.heap.size := (Array.getElem?_eq_some_iff.1 h.box).1
 have gT : X.heap[w.heap.size]? = some (Obj.cells #[ov] 22 (0, 0)) := (hg.block _ hbl fun e => by have := (Pg _ e.symm).1; omega).trans h.box
 have b8 : ∀ b, b ≠ w.heap.size → (X.setCell ⟨w.heap.size, 0, none⟩ (.slice (some ⟨g, 0, none⟩) k cap)).heap[b]? = X.heap[b]? := fun b hb => blk_setCell_other _ _ _ _ hb
 have hsz : (X.setCell ⟨w.heap.size, 0, none⟩ (.slice (some ⟨g, 0, none⟩) k cap)).heap.size = X.heap.size := by simp [World.size_setCell]
 refine ⟨by constructor <;> simp [World.cell?, World.frozen?, gT], ⟨hg.os.trans h.up.os, hg.tape.trans h.up.tape, hg.output.trans h.up.output, by rw [hsz]; exact Nat.le_trans h.up.size hg.size, fun b hb => ?_⟩, by rw [hsz]; exact Nat.le_trans h.size hg.size, fun b hb => ?_, fun q o hq hk hc => ?_, by simp [World.setCell, Array.getElem?_modify, gT], ?_, fun q hq => ?_⟩
 ·rw [b8 b (by omega)]
  exact (hg.block b (by omega) fun e => by have := (Pg _ e.symm).1; omega).trans (h.up.block b hb)
 ·have hne : b ≠ w.heap.size := fun e => by
   subst e
   rcases hb with hb | hb
   ·exact Dh hb
   ·omega
  rw [b8 b hne]
  refine (hg.block b ?_ fun e => ?_).trans (h.keep b hb)
  ·rcases hb with hb | hb
   ·exact hL b hb
   ·have := h.size; omega
  ·obtain ⟨n1, n2⟩ := h.nL b e.symm
   rcases hb with hb | hb
   ·exact n1 hb
   ·omega
 ·have h1 := h.kf q o hq hk hc
  rw [b8 q (by omega)]
  refine (hg.block q (Array.getElem?_eq_some_iff.1 h1).1 fun e => ?_).trans h1
  obtain ⟨c, h10⟩ := az.ED h.own e.symm
  rw [h1] at h10; injection h10 with h10; subst h10; cases hc
 ·rw [List.map_append]
  exact ho.eV fun b hb => b8 b (by have := (aD ho hb).1; omega)
 ·have hq : some g = some q := hq
  injection hq with hq; subst hq
  rcases dw with e | e
  ·exact h.nL g e
  ·exact ⟨fun hl => by have := hL g hl; omega, .inr (Nat.le_trans h.size e)⟩
theorem tK.fin (h0 : tJ w names pre L W) (hu : Up W W2) (hL : ∀ b, L b → b < W.heap.size) (h : tK w L W W2 B wr ov T) (hT : T = iP names (pre ++ [x])) :
  KeepsFrom B W wr ∧ Below w.heap.size w wr ∧ (∀ b, (L b ∨ False) → wr.heap[b]? = W.heap[b]?) ∧ tJ w names (pre ++ [x]) L wr := by
 have hs := hu.size
 have hs2 := h.size
 have hs0 := h0.sz
 refine ⟨⟨Nat.le_trans hs hs2, h.kf⟩, h.up, fun b hb => ?_, h.up, by omega, h0.lo, h0.nL, ov, h.box, by rw [← hT]; exact h.own, fun g hg => (h.nL g hg).1⟩
 have hb : L b := hb.resolve_right id
 exact (h.keep b (.inl hb)).trans (Below.block hu b (hL b hb))
end
def z8 (S : Nat → Prop) (w : World) (names : List ByteArray) (e : Ending) (w' : World) : Prop := Up w w' ∧ ∃ v, e = .returned v ∧ au (fun b => S b ∨ w.heap.size ≤ b) w' v (bg names)
theorem Oj (names : List ByteArray) (pre : List Dv) (x : Dv) : iP names (pre ++ [x]) = iP names pre ++ y9 names x.1 := by
 unfold iP; rw [List.map_append, List.flatMap_append]; simp
def mX (names : List ByteArray) (bits n : Nat) : List ByteArray := ((bg (dA names bits)).take n).flatMap fun s => (bg (dB names bits)).map fun t => pairT s t
theorem Ol (names : List ByteArray) (bits : Nat) {n : Nat} (h : n < (bg (dA names bits)).length) : mX names bits (n + 1) = mX names bits n ++ (bg (dB names bits)).map fun t => pairT (gs (bg (dA names bits)) n) t := by
 have hg : gs (bg (dA names bits)) n = (bg (dA names bits))[n] := by simp [gs, h]
 unfold mX
 rw [List.take_succ_eq_append_getElem h, List.flatMap_append, hg]; simp
theorem Ri (names : List ByteArray) (bits : Nat) : mX names bits (bg (dA names bits)).length = y9 names bits := by unfold mX y9; rw [List.take_length]
set_option maxHeartbeats 8000000 in
theorem Om : ∀ (d : Nat) (names : List ByteArray), names.length ≤ d → 1 ≤ names.length → names.length ≤ 4 → (∀ x ∈ names, x.size ≤ 20) → ∀ (S : Nat → Prop) (w : World) (v : Value), au S w v names → Calls Tryz.prog 130 #[v] w (z8 S w names) := by
 intro d
 induction d with
 | zero => intro names h1 h2; omega
 | succ d ih =>
 intro names hd h1 h4 hz S w v h
 obtain ⟨mp, mc, rfl, -, -⟩ := aA.open h
 have h : au S w (.slice mp names.length mc) names := h
 by_cases hone : names.length = 1
 ·have d1 : ((names.length : Int) == 1) = true := by rw [hone]; rfl
  have hrt : bg names = names := by
   obtain ⟨x, rfl⟩ := List.length_eq_one_iff.1 hone
   exact Rc x
  have HX : Hid (z8 S w names (.returned (.slice mp names.length mc)) w) := ⟨Up.refl _, _, rfl, by rw [hrt]; exact h.sub fun b hb _ => .inl hb⟩
  clear h hrt hone ih
  go_enter Tryz.func130, Tryz.ntmps130
  go_wp2_with fail
  go_ret
  exact HX.out
 have d1 : ((names.length : Int) == 1) = false := beq_eq_false_iff_ne.2 (by omega)
 have h2 : 2 ≤ names.length := by omega
 have ir := aa ih
 have HH := aa h
 have HZ := aa hz
 have HD := aa hd
 clear ih h hz hd h1 hone
 refine (callsIn_wide (n := 9)).1 ?_
 refine callsIn_of_wp_marks Tryz.func130 rfl trivial ?_
 simp only [Tryz.ntmps130, List.size_toArray, List.length_cons, List.length_nil, Nat.reduceAdd, Nat.reduceSub, Array.replicate_succ, Array.replicate_zero, List.push_toArray, List.append_toArray, List.nil_append, List.cons_append]
 have hb1 := blk_alloc_new w (.cells #[.slice none 0 0] 22)
 have aS := Up.alloc w (.cells #[.slice none 0 0] 22)
 have hs1 : (w.alloc (.cells #[.slice none 0 0] 22)).heap.size = w.heap.size + 1 := by simp
 have eO := aa hb1
 have bF := aa aS
 have jY := aa hs1
 clear hb1 aS hs1
 gi_wp2_with fail
 generalize w.alloc (.cells #[.slice none 0 0] 22) = w1 at *
 refine ⟨trivial, (callsIn_wide.2 (FU w1 _ _ _)).mono ?_⟩
 rintro e w9 ⟨rfl, Qd⟩
 have qy : Up w1 w9 := by rw [Qd]; exact Up.alloc _ _
 have GS : w9.heap.size = w1.heap.size + 1 := by rw [Qd]; simp
 have GU := uh w1 (.slice mp names.length mc) 22
 rw [← Qd] at GU
 have EK : au Any w (.slice mp names.length mc) names := HH.out.sub fun _ _ _ => trivial
 have hseq := Oi (w0 := w) (w9 := w9) (Bt := w1.heap.size) (N := 8) 8 h2 h4 (by rw [jY.out]; omega) GU EK (by
  have : 2 ^ (names.length - 1) ≤ 2 ^ 3 := Nat.pow_le_pow_right (by decide) (by omega)
  omega)
 have hI0 : tJ w names [] (fun b => b = w1.heap.size) w9 := ⟨bF.out.trans qy, by rw [GS, jY.out]; omega, fun b hb => by rw [hb, jY.out]; omega, by rw [jY.out]; omega, .slice none 0 0, (Below.block qy _ (by rw [jY.out]; omega)).trans eO.out, az.nil _ _ _, fun g hg => by cases hg⟩
 have H9 : Hid (w9.heap.size = w.heap.size + 2) := by unfold Hid; rw [GS, jY.out]
 have HS1' := aa jY.out
 clear Qd qy GS GU EK eO
 gi_wp2_with fail
 apply FT (F := Fence.wide) (n := 9) (P := Tryz.prog) (ps := #[17, 18]) (w := w9) rfl (by omega) (gf := 231) (lb := #[.pointer (some ⟨w1.heap.size, 0, none⟩)]) rfl trivial (enters_of Tryz.func231 (by kernel_rfl) rfl)
  hseq (fun b hb => by have := H9.out; have := jY.out; omega) (fun x L W b h1 h2 => h2.elim) hI0.up (fun _ => rfl) (fun x L => Rg x L)
  (tJ w names) tJ.ab (tJ.own (by have := H9.out; omega)) hI0
 ·intro l x W K hK
  gi_wp2_with (rw [Oper.semAt_eq _ _ _ (fun c h => by cases h)]; go_simp; try go_bits)
  exact hK
 ·rintro l pre ⟨bits, va, vb⟩ L W hI hG iV GP hlen
  obtain ⟨⟨g1, g2⟩, ga, gb⟩ := hG
  dsimp only at g1 g2 ga gb
  obtain ⟨l1, l2, l3, l4⟩ := Je h2 g1 g2
  have hma := (Jf (L := names) (bits := bits) (by omega)).1
  have hmb := (Jf (L := names) (bits := bits) (by omega)).2
  have EM : ∀ x ∈ dA names bits, x.size ≤ 20 := fun x hx => HZ.out x (hma x hx)
  have hzb : ∀ x ∈ dB names bits, x.size ≤ 20 := fun x hx => HZ.out x (hmb x hx)
  have uK : Hid ((bg (dA names bits)).length ≤ 15 ∧ ∀ k, (gs (bg (dA names bits)) k).size ≤ 100) := ⟨oh (by omega), gZ fun x hx => s8 (by omega) EM hx⟩
  have yR : Hid ((bg (dB names bits)).length ≤ 15 ∧ ∀ k, (gs (bg (dB names bits)) k).size ≤ 100) := ⟨oh (by omega), gZ fun x hx => s8 (by omega) hzb hx⟩
  have hpf : (iP names pre).length ≤ 8 * 225 := by
   unfold iP
   have h1 := kB (f := y9 names) (K := 225) (pre.map (·.1)) fun b _ => by
    have p1 := kP (fun i => !b.testBit i) names.tail (names.length - 1)
    have p2 := kP (fun i => b.testBit i) names.tail (names.length - 1)
    exact Rf (by unfold dA; simp only [List.length_cons]; omega) (by unfold dB; omega)
   rw [List.length_map] at h1
   exact Nat.le_trans h1 (Nat.mul_le_mul_right _ (by omega))
  have Vq := aa hpf
  have gG := aa (ir.out (dB names bits) (by have := HD.out; omega) l4 (by omega) hzb L W vb gb)
  have zb : Hid (∀ W1, Up W W1 → Calls Tryz.prog 130 #[va] W1 (z8 L W1 (dA names bits))) := fun W1 hW => ir.out (dA names bits) (by have := HD.out; omega) l2 (by omega) EM L W1 va (au.keep ga (hW.kept _))
  have HI := aa hI
  have dN : Hid (∀ b, L b → b < W.heap.size) := fun b hb => (GP b hb).2
  clear hI ga gb iV GP hlen hma hmb EM hzb l1 l2 l3 l4 g1 g2 hpf hseq hI0
  dsimp only
  gi_wp2_with (rw [Oper.semAt_eq _ _ _ (fun c h => by cases h)]; go_simp; try go_bits)
  refine ⟨trivial, (callsIn_wide.2 gG.out).mono ?_⟩
  rintro e W1 ⟨aS, sb, rfl, lU⟩
  have BR := aa aS
  clear aS gG
  gi_wp2_with (rw [Oper.semAt_eq _ _ _ (fun c h => by cases h)]; go_simp; try go_bits)
  refine ⟨trivial, (callsIn_wide.2 (zb.out W1 BR.out)).mono ?_⟩
  rintro e W2 ⟨aF, sa, rfl, rH⟩
  have hs1 := BR.out.size
  have hs2 := aF.size
  have bH : Hid (au (fun b => L b ∨ (W.heap.size ≤ b ∧ b < W2.heap.size)) W2 sb (bg (dB names bits))) := (au.keep lU (aF.kept _)).sub fun b hb hl => hb.imp id fun e => ⟨e, hl⟩
  have gI : Hid (au (fun b => L b ∨ (W.heap.size ≤ b ∧ b < W2.heap.size)) W2 sa (bg (dA names bits))) := rH.sub fun b hb hl => hb.imp id fun e => ⟨by omega, hl⟩
  have bE := aa (BR.out.trans aF)
  obtain ⟨ov0, ZU⟩ := HI.out.start (B := w9.heap.size) bE.out
  have ze := aa ZU
  obtain ⟨ap, ac, rfl, -, -⟩ := aA.open gI.out
  obtain ⟨bp, bc, rfl, -, -⟩ := aA.open bH.out
  have gI : Hid (au (fun b => L b ∨ (W.heap.size ≤ b ∧ b < W2.heap.size)) W2 (.slice ap (bg (dA names bits)).length ac) (bg (dA names bits))) := gI.out
  have bH : Hid (au (fun b => L b ∨ (W.heap.size ≤ b ∧ b < W2.heap.size)) W2 (.slice bp (bg (dB names bits)).length bc) (bg (dB names bits))) := bH.out
  have LJ : Hid (w.heap.size < W.heap.size ∧ ¬ L w.heap.size ∧ w.heap.size < w9.heap.size ∧ ∀ b, L b → b < W2.heap.size) := ⟨HI.out.sz, HI.out.nL, by have := H9.out; omega, fun b hb => by have := dN.out b hb; omega⟩
  have DN : Hid (iP names pre = iP names pre ++ mX names bits 0) := by unfold Hid mX; simp
  rw [DN.out] at ze
  clear aF rH lU hs1 hs2 ZU zb BR DN
  gi_wp2_with (rw [Oper.semAt_eq _ _ _ (fun c h => by cases h)]; go_simp; try go_bits)
  gi_loopw [8, 10, 24] (fun _ _ i wr => ∃ (n : Nat) (ov : Value), n ≤ (bg (dA names bits)).length ∧ i = .int .i64 n ∧ Hid (tK w L W W2 w9.heap.size wr ov (iP names pre ++ mX names bits n))) (fun _ _ i _ => (bg (dA names bits)).length - (intOf i).toNat)
  case atStart => exact ⟨0, _, Nat.zero_le _, rfl, ze.out⟩
  case round =>
   obtain ⟨n, ov, hn, rfl, hR⟩ := hrel
   obtain ⟨wo, rfl⟩ : ∃ wo : World, wo = wr := ⟨_, rfl⟩
   have i0 : (0 : Int) ≤ (n : Int) := by omega
   by_cases hlt : n < (bg (dA names bits)).length
   ·obtain ⟨ab, ao, rfl, hca⟩ := bQ (au.keep gI.out hR.out.kept) hlt
    have i1 : (n : Int) < ((bg (dA names bits)).length : Int) := by omega
    have i2 : (n : Int) < 16 := by have := uK.out.1; omega
    have aQ := aa hlt
    have KR := aa (Ol names bits hlt)
    have HR := aa hR.out
    have HZN : Hid ((gs (bg (dA names bits)) n).size ≤ 100) := uK.out.2 n
    generalize gs (bg (dA names bits)) n = sn at *
    clear hR hlt
    gi_wp2_with (rw [Oper.semAt_eq _ _ _ (fun c h => by cases h)]; go_simp; try go_bits)
    gi_loopw [10, 30] (fun _ i wr => ∃ (m : Nat) (ov : Value), m ≤ (bg (dB names bits)).length ∧ i = .int .i64 m ∧ Hid (tK w L W W2 w9.heap.size wr ov ((iP names pre ++ mX names bits n) ++ ((bg (dB names bits)).take m).map fun t => pairT sn t))) (fun _ i _ => (bg (dB names bits)).length - (intOf i).toNat)
    case atStart => exact ⟨0, _, Nat.zero_le _, rfl, by rw [List.take_zero, List.map_nil, List.append_nil]; exact HR.out⟩
    case round =>
     obtain ⟨m, ov2, hm, rfl, Ay⟩ := hrel
     obtain ⟨wi, rfl⟩ : ∃ wi : World, wi = wr := ⟨_, rfl⟩
     have j0 : (0 : Int) ≤ (m : Int) := by omega
     by_cases hlm : m < (bg (dB names bits)).length
     ·obtain ⟨bb, bo, rfl, hcb⟩ := bQ (au.keep bH.out Ay.out.kept) hlm
      have j1 : (m : Int) < ((bg (dB names bits)).length : Int) := by omega
      have j2 : (m : Int) < 16 := by have := yR.out.1; omega
      have EN := aa hlm
      have BS := aa Ay.out
      have jS := Ay.out.cells.1
      have fH : Hid (((bg (dB names bits)).take (m + 1)).map (fun t => pairT sn t) = ((bg (dB names bits)).take m).map (fun t => pairT sn t) ++ [pairT sn (gs (bg (dB names bits)) m)]) := by
       unfold Hid
       rw [List.take_succ_eq_append_getElem hlm, List.map_append]
       simp [gs, hlm]
      have z1 := HZN.out
      have z2 : (gs (bg (dB names bits)) m).size ≤ 100 := yR.out.2 m
      have kK : Hid ((((iP names pre ++ mX names bits n) ++ ((bg (dB names bits)).take m).map fun t => pairT sn t).map Value.string).length ≤ 1000000) := by
       have h1 := Vq.out
       have h2 := yR.out.1
       have h3 := uK.out.1
       have h4 : (mX names bits n).length ≤ 15 * 15 := by
        unfold mX
        have q := kB (f := fun s => (bg (dB names bits)).map fun t => pairT s t) (K := 15) ((bg (dA names bits)).take n) fun s _ => by rw [List.length_map]; exact h2
        rw [List.length_take] at q
        exact Nat.le_trans q (Nat.mul_le_mul_right _ (by omega))
       unfold Hid
       simp only [List.length_map, List.length_append, List.length_take]
       omega
      generalize gs (bg (dB names bits)) m = tm at *
      obtain ⟨T, hT⟩ : ∃ T, T = (iP names pre ++ mX names bits n) ++ ((bg (dB names bits)).take m).map fun t => pairT sn t := ⟨_, rfl⟩
      rw [← hT] at BS kK
      have HT : Hid ((iP names pre ++ mX names bits n) ++ ((bg (dB names bits)).take (m + 1)).map (fun t => pairT sn t) = T ++ [pairT sn tm]) := by
       unfold Hid; rw [fH.out, ← List.append_assoc, ← hT]
      obtain ⟨oq, oc, EO, -⟩ := BS.out.own.form (n := T.length) (by simp)
      subst EO
      have Lt : Hid (w9.heap.size ≤ w9.heap.size ∧ w.heap.size + 1 ≤ wi.heap.size) := ⟨Nat.le_refl _, by have h1 := BS.out.size; have h2 := bE.out.size; have h3 := LJ.out.1; omega⟩
      clear Ay hlm hm hT fH
      gi_wp2_with (first
       | (gi_at_builtin; refine nA wi rfl _ _ 22 rfl (w.heap.size + 1) 9 (.string ⟨#[]⟩) 16 Tryz.underlying22 Tryz.gy rfl (by decide) BS.out.own rfl _ rfl rfl T.length (List.length_map _) (by have h := kK.out; rw [List.length_map] at h; exact h) Lt.out.2 ?_; intro g8 iG w8 bZ cH fI; obtain ⟨⟨UW, ZB⟩, ZV⟩ := BS.out.push (s := pairT sn tm) LJ.out.1 LJ.out.2.1 (fun b hb => Nat.lt_of_lt_of_le (LJ.out.2.2.2 b hb) BS.out.size) LJ.out.2.2.1 bZ cH fI; have U5 := aa ZV; clear bZ cH fI ZV)
       | (rw [Oper.semAt_eq _ _ _ (fun c h => by cases h)]; go_simp; try go_bits))
      go_roundw
      case rel => exact ⟨m + 1, _, EN.out, by go_num, by rw [HT.out]; exact U5.out⟩
      case measure => have := EN.out; simp [intOf]; omega
     ·obtain rfl : m = (bg (dB names bits)).length := by omega
      have GV : Hid (iP names pre ++ mX names bits (n + 1) = (iP names pre ++ mX names bits n) ++ ((bg (dB names bits)).take (bg (dB names bits)).length).map fun t => pairT sn t) := by
       unfold Hid; rw [KR.out, List.take_length, List.append_assoc]
      gi_wp2_with (rw [Oper.semAt_eq _ _ _ (fun c h => by cases h)]; go_simp; try go_bits)
      go_roundw
      case rel => exact ⟨n + 1, _, aQ.out, by go_num, by rw [GV.out]; exact Ay.out⟩
      case measure => have := aQ.out; simp [intOf]; omega
   ·obtain rfl : n = (bg (dA names bits)).length := by omega
    have yX : Hid (iP names pre ++ mX names bits (bg (dA names bits)).length = iP names (pre ++ [(bits, va, vb)])) := by
     unfold Hid; rw [Ri, Oj]
    gi_wp2_with (rw [Oper.semAt_eq _ _ _ (fun c h => by cases h)]; go_simp; try go_bits)
    exact hR.out.fin HI.out bE.out dN.out yX.out
 ·intro D xs L W hD hS hI hK
  obtain ⟨ov, e1, e2, e3⟩ := hI.ex
  obtain ⟨oq, oc, rfl, -⟩ := e2.form (n := (iP names xs).length) (by simp)
  have Tq : W.cell? ⟨w.heap.size, 0, none⟩ = some (.slice oq (iP names xs).length oc) := by simp [World.cell?, e1]
  have HK := aa hK
  have BU := aa e2
  have HI := aa hI
  have HT : Hid (iP names xs = bg names) := by unfold Hid iP; rw [hS, Vg h2]
  clear e1 e2 e3 hI hS hK hseq hI0
  gi_wp2_with fail
  have hq : ∀ b, b ≠ D → (W.putObj D (.deferred none)).heap[b]? = W.heap[b]? := fun b hb => World.putObj_heap_other hb
  have hu := HI.out.up
  have h9 := H9.out
  have hne : ∀ b, (Value.slice oq (iP names xs).length oc).ownBlock = some b → b ≠ D := fun b hb e => by
   subst e
   obtain ⟨c, h10⟩ := az.ED BU.out hb
   rw [HK.out] at h10; injection h10 with h10; cases h10
  refine ⟨by simp, .inl ⟨_, _, rfl, run_takeDeferred HK.out, ?_⟩⟩
  refine ⟨.slice oq (iP names xs).length oc, by simp [results, Tryz.results130, go_sem], ⟨hu.os, hu.tape, hu.output, by have h := hu.size; simpa using h, fun b hb => (hq b (by omega)).trans (hu.block b hb)⟩, _, rfl, ?_⟩
  have h3 := BU.out.eV fun b hb => hq b (hne b hb)
  rw [← HT.out]
  exact h3.strs.sub fun b hb _ => .inr (by omega)
end Go.Proofs.YteegefnjnikngaaGreat
namespace Go.Proofs
open Go.Shelf
def Tryz.sortEnt_ren : Go.Shelf.Ren := ⟨fun | 6 => 132 | 15 => 137 | 14 => 180 | 28 => 194 | 29 => 195 | 20 => 236 | 21 => 237 | 22 => 238 | 23 => 239 | 24 => 240 | 25 => 241 | 26 => 242 | 27 => 243 | 46 => 279 | 47 => 250 | 48 => 251 | 49 => 280 | 50 => 281 | 57 => 299 | n => n, fun | 22 => 94 | 24 => 99 | 25 => 158 | 3 => 3 | 39 => 162 | 0 => 0 | 53 => 201 | 55 => 203 | 4 => 4 | 46 => 193 | 45 => 192 | 50 => 198 | 5 => 5 | 9 => 9 | 66 => 250 | 70 => 254 | 76 => 277 | 77 => 187 | n => n, fun | n => n⟩
theorem Tryz.sortEnt : Go.Proofs.SlLaysF0.n6 Tryz.prog Tryz.sortEnt_ren := {
 mixed := by kernel_rfl
 f6 := ⟨Tryz.f132.name, by decide, Tryz.func132.trans (congrArg some (by kernel_rfl))⟩
 f14 := ⟨Tryz.f180.name, by decide, Tryz.func180.trans (congrArg some (by kernel_rfl))⟩
 f15 := Tryz.func137.trans (congrArg some (by kernel_rfl))
 f20 := ⟨Tryz.f236.name, by decide, Tryz.func236.trans (congrArg some (by kernel_rfl))⟩
 f21 := ⟨Tryz.f237.name, by decide, Tryz.func237.trans (congrArg some (by kernel_rfl))⟩
 f22 := ⟨Tryz.f238.name, by decide, Tryz.func238.trans (congrArg some (by kernel_rfl))⟩
 f23 := ⟨Tryz.f239.name, by decide, Tryz.func239.trans (congrArg some (by kernel_rfl))⟩
 f24 := ⟨Tryz.f240.name, by decide, Tryz.func240.trans (congrArg some (by kernel_rfl))⟩
 f25 := ⟨Tryz.f241.name, by decide, Tryz.func241.trans (congrArg some (by kernel_rfl))⟩
 f26 := ⟨Tryz.f242.name, by decide, Tryz.func242.trans (congrArg some (by kernel_rfl))⟩
 f27 := ⟨Tryz.f243.name, by decide, Tryz.func243.trans (congrArg some (by kernel_rfl))⟩
 f28 := Tryz.func194.trans (congrArg some (by kernel_rfl))
 f29 := Tryz.func195.trans (congrArg some (by kernel_rfl))
 f46 := ⟨Tryz.f279.name, by decide, Tryz.func279.trans (congrArg some (by kernel_rfl))⟩
 f47 := Tryz.func250.trans (congrArg some (by kernel_rfl))
 f48 := Tryz.func251.trans (congrArg some (by kernel_rfl))
 f49 := ⟨Tryz.f280.name, by decide, Tryz.func280.trans (congrArg some (by kernel_rfl))⟩
 f50 := ⟨Tryz.f281.name, by decide, Tryz.func281.trans (congrArg some (by kernel_rfl))⟩
 f57 := ⟨Tryz.f299.name, by decide, Tryz.func299.trans (congrArg some (by kernel_rfl))⟩
 t0 := Tryz.underlying0
 a0 := Tryz.isAgg0
 z0 := Tryz.sizeOf0
 v0 := Tryz.zeroValue0
 t3 := Tryz.underlying3
 a3 := Tryz.isAgg3
 z3 := Tryz.sizeOf3
 v3 := Tryz.zeroValue3
 t4 := Tryz.underlying4
 a4 := Tryz.isAgg4
 z4 := Tryz.sizeOf4
 v4 := Tryz.zeroValue4
 t5 := Tryz.underlying5
 a5 := Tryz.isAgg5
 z5 := Tryz.sizeOf5
 v5 := Tryz.zeroValue5
 t9 := Tryz.underlying9
 a9 := Tryz.isAgg9
 z9 := Tryz.sizeOf9
 v9 := Tryz.zeroValue9
 t22 := Tryz.underlying94
 a22 := Tryz.isAgg94
 z22 := Tryz.sizeOf94
 v22 := Tryz.zeroValue94
 t25 := Tryz.underlying158
 a25 := Tryz.isAgg158
 z25 := Tryz.sizeOf158
 v25 := Tryz.zeroValue158
 t39 := Tryz.underlying162
 a39 := Tryz.isAgg162
 z39 := Tryz.sizeOf162
 v39 := Tryz.zeroValue162
 t45 := Tryz.underlying192
 a45 := Tryz.isAgg192
 z45 := Tryz.sizeOf192
 v45 := Tryz.zeroValue192
 t46 := Tryz.underlying193
 a46 := Tryz.isAgg193
 z46 := Tryz.sizeOf193
 v46 := Tryz.zeroValue193
 t50 := Tryz.underlying198
 a50 := Tryz.isAgg198
 z50 := Tryz.sizeOf198
 v50 := Tryz.zeroValue198
 t53 := Tryz.underlying201
 a53 := Tryz.isAgg201
 z53 := Tryz.sizeOf201
 v53 := Tryz.zeroValue201
 t55 := Tryz.underlying203
 a55 := Tryz.isAgg203
 z55 := Tryz.sizeOf203
 v55 := Tryz.zeroValue203
 t66 := Tryz.underlying250
 a66 := Tryz.isAgg250
 z66 := Tryz.sizeOf250
 v66 := Tryz.zeroValue250
 t70 := Tryz.underlying254
 a70 := Tryz.isAgg254
 z70 := Tryz.sizeOf254
 v70 := Tryz.zeroValue254
 t76 := Tryz.underlying277
 a76 := Tryz.isAgg277
 z76 := Tryz.sizeOf277
 v76 := Tryz.zeroValue277
 t77 := Tryz.underlying187
 a77 := Tryz.isAgg187
 z77 := Tryz.sizeOf187
 v77 := Tryz.zeroValue187 }
end Go.Proofs
namespace Go.Proofs.YteegefnjnikngaaGreat
section
end
section
open Go.RowKit Go.Deep
end
section
open Go.RowKit Go.Deep Go.Shelf
end
section
section
variable {names : List ByteArray} {t : av} {S : Nat → List Int} {l : List (List Int)} {la : Nat}
end
end
end Go.Proofs.YteegefnjnikngaaGreat
