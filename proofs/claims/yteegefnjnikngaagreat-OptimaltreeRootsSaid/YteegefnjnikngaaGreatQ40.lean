/- optimaltree.rooted: the texts of all rooted binary trees. split.Distance. Plain: the .. -/
import Derived.Test.YteegefnjnikngaaGreatQ1
import Derived.Test.YteegefnjnikngaaGreatQ39
import Derived.Test.YteegefnjnikngaaGreatQ8
import Derived.Test.YteegefnjnikngaaGreatQ9
import Derived.Test.YteegefnjnikngaaGreatQ17
import Derived.Test.YteegefnjnikngaaGreatQ38
import Derived.Test.YteegefnjnikngaaGreatQ18
set_option maxRecDepth 100000
namespace Go.Proofs.YteegefnjnikngaaGreat
section
open Go.RowKit Go.Shelf Go.Deep Go.Sort
def kF (names : List ByteArray) (pre : List Dv) : List ByteArray := (pre.map (·.1)).flatMap (CS names)
structure xO (w : World) (names : List ByteArray) (pre : List Dv) (L : Nat → Prop) (W : World) : Prop where
 up : Up w W
 sz : w.heap.size + 1 ≤ W.heap.size
 lo : ∀ b, L b → w.heap.size ≤ b
 nL : ¬ L w.heap.size
 ex : ∃ ov, W.heap[w.heap.size]? = some (Obj.cells #[ov] 22 (0, 0)) ∧ aA (w.heap.size + 1) 9 W ov ((kF names pre).map Value.string) ∧ ∀ g, ov.ownBlock = some g → ¬ L g
section
variable {w : World} {names : List ByteArray}
theorem xO.ab : Ye (xO w names) := by
 rintro s L L' W W' h hs
 obtain ⟨ov, h1, h2, h7⟩ := h.ex
 have hsz := h.sz
 have hnl : ∀ b, b < W.heap.size → ¬ L b → ¬ L' b := fun b hb hn hb' => by
  rcases hs.more b hb' with e | e
  ·exact hn e.1
  ·omega
 refine ⟨⟨hs.os.trans h.up.os, hs.tape.trans h.up.tape, hs.output.trans h.up.output, Nat.le_trans h.up.size hs.size, fun b hb => (hs.block b (by omega) fun e => by have := h.lo b e; omega).trans (h.up.block b hb)⟩, by have := hs.size; omega, fun b hb => ?_, hnl _ (by omega) h.nL,
  ov, (hs.block _ (by omega) h.nL).trans h1, aA.Us h2 fun b hb => hs.block b (aF h2 hb).2 (h7 b hb), fun g hg => hnl g (aF h2 hg).2 (h7 g hg)⟩
 rcases hs.more b hb with e | e
 ·exact h.lo b e.1
 ·omega
theorem xO.own {B : Nat} (hB : w.heap.size + 1 ≤ B) (L : Nat → Prop) : OwnFrom B (fun s W => xO w names s L W) := by
 intro s X Y row h hg hr
 obtain ⟨ov, h1, h2, h7⟩ := h.ex
 have hsz := h.sz
 have AY : ∀ b, b < w.heap.size + 1 → Y.heap[b]? = X.heap[b]? := fun b hb => hg.block b (by omega) fun e => by have := (hr b e.symm).1; omega
 refine ⟨⟨hg.os.trans h.up.os, hg.tape.trans h.up.tape, hg.output.trans h.up.output, Nat.le_trans h.up.size hg.size, fun b hb => (AY b (by omega)).trans (h.up.block b hb)⟩, by have := hg.size; omega, h.lo, h.nL, ov, (AY _ (by omega)).trans h1,
  aA.Us h2 fun b hb => hg.block b (aF h2 hb).2 fun e => ?_, h7⟩
 obtain ⟨_, o, h8, h9⟩ := hr b e.symm
 obtain ⟨c, h10⟩ := aA.GU h2 hb
 rw [h10] at h8; injection h8 with h8; subst h8; cases h9
end
structure xP (w : World) (L : Nat → Prop) (W W2 : World) (B : Nat) (wr : World) (ov : Value) (T : List ByteArray) : Prop where
 up : Up w wr
 size : W2.heap.size ≤ wr.heap.size
 keep : ∀ b, (L b ∨ (W.heap.size ≤ b ∧ b < W2.heap.size)) → wr.heap[b]? = W2.heap[b]?
 kf : ∀ k o, B ≤ k → W.heap[k]? = some o → o.isCells = false → wr.heap[k]? = some o
 box : wr.heap[w.heap.size]? = some (Obj.cells #[ov] 22 (0, 0))
 own : aA (w.heap.size + 1) 9 wr ov (T.map Value.string)
 nL : ∀ g, ov.ownBlock = some g → ¬ L g ∧ (g < W.heap.size ∨ W2.heap.size ≤ g)
section
variable {w W W2 wr X : World} {names : List ByteArray} {L : Nat → Prop} {B : Nat} {ov : Value} {T : List ByteArray} {s : ByteArray} {g cap k : Nat} {pre : List Dv} {x : Dv}
theorem xO.start (h : xO w names pre L W) (hu : Up W W2) : ∃ ov, xP w L W W2 B W2 ov (kF names pre) := by
 obtain ⟨ov, h1, h2, h7⟩ := h.ex
 have hsz := h.sz
 exact ⟨ov, ⟨h.up.trans hu, Nat.le_refl _, fun _ _ => rfl, fun k o _ hk _ => (Below.block hu k (Array.getElem?_eq_some_iff.1 hk).1).trans hk, (Below.block hu _ (by omega)).trans h1, h2.eV fun b hb => Below.block hu b (aF h2 hb).2, fun g hg => ⟨h7 g hg, .inl (aF h2 hg).2⟩⟩⟩
theorem xP.cells (h : xP w L W W2 B wr ov T) : wr.cell? ⟨w.heap.size, 0, none⟩ = some ov ∧ wr.frozen? ⟨w.heap.size, 0, none⟩ = false := by
 refine ⟨?_, ?_⟩ <;> simp [World.cell?, World.frozen?, h.box]
theorem xP.kept (h : xP w L W W2 B wr ov T) : Kept (fun b => L b ∨ (W.heap.size ≤ b ∧ b < W2.heap.size)) W2 wr := fun b hb _ => h.keep b hb
theorem xP.push (h : xP w L W W2 B wr ov T) (hw : w.heap.size < W.heap.size) (Ho : ¬ L w.heap.size) (hL : ∀ b, L b → b < wr.heap.size) (hB : w.heap.size < B) (ho : aA (w.heap.size + 1) 9 X (.slice (some ⟨g, 0, none⟩) k cap) (T.map Value.string ++ [.string s])) (hg : wr.grownBy X ov.ownBlock) (eR : ov.ownBlock = some g ∨ wr.heap.size ≤ g) :
  (X.cell? ⟨w.heap.size, 0, none⟩ = some ov ∧ X.frozen? ⟨w.heap.size, 0, none⟩ = false) ∧ xP w L W W2 B (X.setCell ⟨w.heap.size, 0, none⟩ (.slice (some ⟨g, 0, none⟩) k cap)) (.slice (some ⟨g, 0, none⟩) k cap) (T ++ [s]) := by
 have GJ : ∀ q, ov.ownBlock = some q → w.heap.size + 1 ≤ q ∧ q < wr.heap.size := fun q hq => aF h.own hq
 have hbl : w.heap.size < wr.heap.size := (Array.getElem?_eq_some_iff.1 h.box).1
 have jD : X.heap[w.heap.size]? = some (Obj.cells #[ov] 22 (0, 0)) := (hg.block _ hbl fun e => by have := (GJ _ e.symm).1; omega).trans h.box
 have b8 : ∀ b, b ≠ w.heap.size → (X.setCell ⟨w.heap.size, 0, none⟩ (.slice (some ⟨g, 0, none⟩) k cap)).heap[b]? = X.heap[b]? := fun b hb => blk_setCell_other _ _ _ _ hb
 have hsz : (X.setCell ⟨w.heap.size, 0, none⟩ (.slice (some ⟨g, 0, none⟩) k cap)).heap.size = X.heap.size := by simp [World.size_setCell]
 refine ⟨by constructor <;> simp [World.cell?, World.frozen?, jD], ⟨hg.os.trans h.up.os, hg.tape.trans h.up.tape, hg.output.trans h.up.output, by rw [hsz]; exact Nat.le_trans h.up.size hg.size, fun b hb => ?_⟩, by rw [hsz]; exact Nat.le_trans h.size hg.size, fun b hb => ?_, fun q o hq hk hc => ?_, by simp [World.setCell, Array.getElem?_modify, jD], ?_, fun q hq => ?_⟩
 ·rw [b8 b (by omega)]
  exact (hg.block b (by omega) fun e => by have := (GJ _ e.symm).1; omega).trans (h.up.block b hb)
 ·have hne : b ≠ w.heap.size := fun e => by
   subst e
   rcases hb with hb | hb
   ·exact Ho hb
   ·omega
  rw [b8 b hne]
  refine (hg.block b ?_ fun e => ?_).trans (h.keep b hb)
  ·rcases hb with hb | hb
   ·exact hL b hb
   ·have := h.size; omega
  ·obtain ⟨n1, n2⟩ := h.nL b e.symm
   rcases hb with hb | hb
   ·exact n1 hb
   ·omega
 ·have h1 := h.kf q o hq hk hc
  rw [b8 q (by omega)]
  refine (hg.block q (Array.getElem?_eq_some_iff.1 h1).1 fun e => ?_).trans h1
  obtain ⟨c, h10⟩ := aA.GU h.own e.symm
  rw [h1] at h10; injection h10 with h10; subst h10; cases hc
 ·rw [List.map_append]
  exact ho.eV fun b hb => b8 b (by have := (aF ho hb).1; omega)
 ·have hq : some g = some q := hq
  injection hq with hq; subst hq
  rcases eR with e | e
  ·exact h.nL g e
  ·exact ⟨fun hl => by have := hL g hl; omega, .inr (Nat.le_trans h.size e)⟩
theorem xP.fin (h0 : xO w names pre L W) (hu : Up W W2) (hL : ∀ b, L b → b < W.heap.size) (h : xP w L W W2 B wr ov T) (hT : T = kF names (pre ++ [x])) :
  KeepsFrom B W wr ∧ Below w.heap.size w wr ∧ (∀ b, (L b ∨ False) → wr.heap[b]? = W.heap[b]?) ∧ xO w names (pre ++ [x]) L wr := by
 have hs := hu.size
 have hs2 := h.size
 have hs0 := h0.sz
 refine ⟨⟨Nat.le_trans hs hs2, h.kf⟩, h.up, fun b hb => ?_, h.up, by omega, h0.lo, h0.nL, ov, h.box, by rw [← hT]; exact h.own, fun g hg => (h.nL g hg).1⟩
 have hb : L b := hb.resolve_right id
 exact (h.keep b (.inl hb)).trans (Below.block hu b (hL b hb))
end
def DX (S : Nat → Prop) (w : World) (names : List ByteArray) (e : Ending) (w' : World) : Prop := Up w w' ∧ ∃ v, e = .returned v ∧ av (fun b => S b ∨ w.heap.size ≤ b) w' v (bK names)
theorem TA (names : List ByteArray) (pre : List Dv) (x : Dv) : kF names (pre ++ [x]) = kF names pre ++ CS names x.1 := by
 unfold kF; rw [List.map_append, List.flatMap_append]; simp
def qM (names : List ByteArray) (bits n : Nat) : List ByteArray := ((bK (dA names bits)).take n).flatMap fun s => (bK (dB names bits)).map fun t => pairT s t
theorem TB (names : List ByteArray) (bits : Nat) {n : Nat} (h : n < (bK (dA names bits)).length) : qM names bits (n + 1) = qM names bits n ++ (bK (dB names bits)).map fun t => pairT (gs (bK (dA names bits)) n) t := by
 have hg : gs (bK (dA names bits)) n = (bK (dA names bits))[n] := by simp [gs, h]
 unfold qM
 rw [List.take_succ_eq_append_getElem h, List.flatMap_append, hg]; simp
theorem WQ (names : List ByteArray) (bits : Nat) : qM names bits (bK (dA names bits)).length = CS names bits := by unfold qM CS; rw [List.take_length]
set_option maxHeartbeats 8000000 in
theorem TC : ∀ (d : Nat) (names : List ByteArray), names.length ≤ d → 1 ≤ names.length → names.length ≤ 4 → (∀ x ∈ names, x.size ≤ 20) → ∀ (S : Nat → Prop) (w : World) (v : Value), av S w v names → Calls Tryz.prog 130 #[v] w (DX S w names) := by
 intro d
 induction d with
 | zero => intro names h1 h2; omega
 | succ d ih =>
 intro names hd h1 h4 hz S w v h
 obtain ⟨mp, mc, rfl, -, -⟩ := aD.open h
 have h : av S w (.slice mp names.length mc) names := h
 by_cases hone : names.length = 1
 ·have d1 : ((names.length : Int) == 1) = true := by rw [hone]; rfl
  have hrt : bK names = names := by
   obtain ⟨x, rfl⟩ := List.length_eq_one_iff.1 hone
   exact WI x
  have HX : Hid (DX S w names (.returned (.slice mp names.length mc)) w) := ⟨Up.refl _, _, rfl, by rw [hrt]; exact h.sub fun b hb _ => .inl hb⟩
  clear h hrt hone ih
  go_enter Tryz.func130, Tryz.ntmps130
  go_wp2_with fail
  go_ret
  exact HX.out
 have d1 : ((names.length : Int) == 1) = false := beq_eq_false_iff_ne.2 (by omega)
 have h2 : 2 ≤ names.length := by omega
 have iG := aa ih
 have HH := aa h
 have HZ := aa hz
 have HD := aa hd
 clear ih h hz hd h1 hone
 refine (callsIn_wide (n := 9)).1 ?_
 refine callsIn_of_wp_marks Tryz.func130 rfl trivial ?_
 simp only [Tryz.ntmps130, List.size_toArray, List.length_cons, List.length_nil, Nat.reduceAdd, Nat.reduceSub, Array.replicate_succ, Array.replicate_zero, List.push_toArray, List.append_toArray, List.nil_append, List.cons_append]
 have hb1 := blk_alloc_new w (.cells #[.slice none 0 0] 22)
 have aX := Up.alloc w (.cells #[.slice none 0 0] 22)
 have hs1 : (w.alloc (.cells #[.slice none 0 0] 22)).heap.size = w.heap.size + 1 := by simp
 have iq := aa hb1
 have bT := aa aX
 have lg := aa hs1
 clear hb1 aX hs1
 gi_wp2_with fail
 generalize w.alloc (.cells #[.slice none 0 0] 22) = w1 at *
 refine ⟨trivial, (callsIn_wide.2 (KO w1 _ _ _)).mono ?_⟩
 rintro e w9 ⟨rfl, VC⟩
 have um : Up w1 w9 := by rw [VC]; exact Up.alloc _ _
 have CM : w9.heap.size = w1.heap.size + 1 := by rw [VC]; simp
 have Mi := uW w1 (.slice mp names.length mc) 22
 rw [← VC] at Mi
 have JP : av Any w (.slice mp names.length mc) names := HH.out.sub fun _ _ _ => trivial
 have hseq := Tz (w0 := w) (w9 := w9) (Bt := w1.heap.size) (N := 8) 8 h2 h4 (by rw [lg.out]; omega) Mi JP (by
  have : 2 ^ (names.length - 1) ≤ 2 ^ 3 := Nat.pow_le_pow_right (by decide) (by omega)
  omega)
 have hI0 : xO w names [] (fun b => b = w1.heap.size) w9 := ⟨bT.out.trans um, by rw [CM, lg.out]; omega, fun b hb => by rw [hb, lg.out]; omega, by rw [lg.out]; omega, .slice none 0 0, (Below.block um _ (by rw [lg.out]; omega)).trans iq.out, aA.nil _ _ _, fun g hg => by cases hg⟩
 have H9 : Hid (w9.heap.size = w.heap.size + 2) := by unfold Hid; rw [CM, lg.out]
 have HS1' := aa lg.out
 clear VC um CM Mi JP iq
 gi_wp2_with fail
 apply Ku (F := Fence.wide) (n := 9) (P := Tryz.prog) (ps := #[17, 18]) (w := w9) rfl (by omega) (gf := 231) (lb := #[.pointer (some ⟨w1.heap.size, 0, none⟩)]) rfl trivial (enters_of Tryz.func231 (by kernel_rfl) rfl)
  hseq (fun b hb => by have := H9.out; have := lg.out; omega) (fun x L W b h1 h2 => h2.elim) hI0.up (fun _ => rfl) (fun x L => WO x L)
  (xO w names) xO.ab (xO.own (by have := H9.out; omega)) hI0
 ·intro l x W K hK
  gi_wp2_with (rw [Oper.semAt_eq _ _ _ (fun c h => by cases h)]; go_simp; try go_bits)
  exact hK
 ·rintro l pre ⟨bits, va, vb⟩ L W hI hG kL K6 hlen
  obtain ⟨⟨g1, g2⟩, ga, gb⟩ := hG
  dsimp only at g1 g2 ga gb
  obtain ⟨l1, l2, l3, l4⟩ := ND h2 g1 g2
  have hma := (NF (L := names) (bits := bits) (by omega)).1
  have hmb := (NF (L := names) (bits := bits) (by omega)).2
  have ud : ∀ x ∈ dA names bits, x.size ≤ 20 := fun x hx => HZ.out x (hma x hx)
  have hzb : ∀ x ∈ dB names bits, x.size ≤ 20 := fun x hx => HZ.out x (hmb x hx)
  have yJ : Hid ((bK (dA names bits)).length ≤ 15 ∧ ∀ k, (gs (bK (dA names bits)) k).size ≤ 100) := ⟨r6 (by omega), iN fun x hx => xh (by omega) ud hx⟩
  have Cu : Hid ((bK (dB names bits)).length ≤ 15 ∧ ∀ k, (gs (bK (dB names bits)) k).size ≤ 100) := ⟨r6 (by omega), iN fun x hx => xh (by omega) hzb hx⟩
  have hpf : (kF names pre).length ≤ 8 * 225 := by
   unfold kF
   have h1 := mY (f := CS names) (K := 225) (pre.map (·.1)) fun b _ => by
    have p1 := nj (fun i => !b.testBit i) names.tail (names.length - 1)
    have p2 := nj (fun i => b.testBit i) names.tail (names.length - 1)
    exact WK (by unfold dA; simp only [List.length_cons]; omega) (by unfold dB; omega)
   rw [List.length_map] at h1
   exact Nat.le_trans h1 (Nat.mul_le_mul_right _ (by omega))
  have HPF := aa hpf
  have jo := aa (iG.out (dB names bits) (by have := HD.out; omega) l4 (by omega) hzb L W vb gb)
  have C6 : Hid (∀ W1, Up W W1 → Calls Tryz.prog 130 #[va] W1 (DX L W1 (dA names bits))) := fun W1 hW => iG.out (dA names bits) (by have := HD.out; omega) l2 (by omega) ud L W1 va (av.keep ga (hW.kept _))
  have HI := aa hI
  have dF : Hid (∀ b, L b → b < W.heap.size) := fun b hb => (K6 b hb).2
  clear hI ga gb kL K6 hlen hma hmb ud hzb l1 l2 l3 l4 g1 g2 hpf hseq hI0
  dsimp only
  gi_wp2_with (rw [Oper.semAt_eq _ _ _ (fun c h => by cases h)]; go_simp; try go_bits)
  refine ⟨trivial, (callsIn_wide.2 jo.out).mono ?_⟩
  rintro e W1 ⟨aX, sb, rfl, oI⟩
  have FC := aa aX
  clear aX jo
  gi_wp2_with (rw [Oper.semAt_eq _ _ _ (fun c h => by cases h)]; go_simp; try go_bits)
  refine ⟨trivial, (callsIn_wide.2 (C6.out W1 FC.out)).mono ?_⟩
  rintro e W2 ⟨aK, sa, rfl, vt⟩
  have hs1 := FC.out.size
  have hs2 := aK.size
  have ct : Hid (av (fun b => L b ∨ (W.heap.size ≤ b ∧ b < W2.heap.size)) W2 sb (bK (dB names bits))) := (av.keep oI (aK.kept _)).sub fun b hb hl => hb.imp id fun e => ⟨e, hl⟩
  have js : Hid (av (fun b => L b ∨ (W.heap.size ≤ b ∧ b < W2.heap.size)) W2 sa (bK (dA names bits))) := vt.sub fun b hb hl => hb.imp id fun e => ⟨by omega, hl⟩
  have bH := aa (FC.out.trans aK)
  obtain ⟨ov0, hR0⟩ := HI.out.start (B := w9.heap.size) bH.out
  have ym := aa hR0
  obtain ⟨ap, ac, rfl, -, -⟩ := aD.open js.out
  obtain ⟨bp, bc, rfl, -, -⟩ := aD.open ct.out
  have js : Hid (av (fun b => L b ∨ (W.heap.size ≤ b ∧ b < W2.heap.size)) W2 (.slice ap (bK (dA names bits)).length ac) (bK (dA names bits))) := js.out
  have ct : Hid (av (fun b => L b ∨ (W.heap.size ≤ b ∧ b < W2.heap.size)) W2 (.slice bp (bK (dB names bits)).length bc) (bK (dB names bits))) := ct.out
  have QT : Hid (w.heap.size < W.heap.size ∧ ¬ L w.heap.size ∧ w.heap.size < w9.heap.size ∧ ∀ b, L b → b < W2.heap.size) := ⟨HI.out.sz, HI.out.nL, by have := H9.out; omega, fun b hb => by have := dF.out b hb; omega⟩
  have GC : Hid (kF names pre = kF names pre ++ qM names bits 0) := by unfold Hid qM; simp
  rw [GC.out] at ym
  clear aK vt oI hs1 hs2 hR0 C6 FC GC
  gi_wp2_with (rw [Oper.semAt_eq _ _ _ (fun c h => by cases h)]; go_simp; try go_bits)
  gi_loopw [8, 10, 24] (fun _ _ i wr => ∃ (n : Nat) (ov : Value), n ≤ (bK (dA names bits)).length ∧ i = .int .i64 n ∧ Hid (xP w L W W2 w9.heap.size wr ov (kF names pre ++ qM names bits n))) (fun _ _ i _ => (bK (dA names bits)).length - (intOf i).toNat)
  case atStart => exact ⟨0, _, Nat.zero_le _, rfl, ym.out⟩
  case round =>
   obtain ⟨n, ov, hn, rfl, hR⟩ := hrel
   obtain ⟨wo, rfl⟩ : ∃ wo : World, wo = wr := ⟨_, rfl⟩
   have i0 : (0 : Int) ≤ (n : Int) := by omega
   by_cases hlt : n < (bK (dA names bits)).length
   ·obtain ⟨ab, ao, rfl, hca⟩ := cu (av.keep js.out hR.out.kept) hlt
    have i1 : (n : Int) < ((bK (dA names bits)).length : Int) := by omega
    have i2 : (n : Int) < 16 := by have := yJ.out.1; omega
    have aY := aa hlt
    have PM := aa (TB names bits hlt)
    have HR := aa hR.out
    have HZN : Hid ((gs (bK (dA names bits)) n).size ≤ 100) := yJ.out.2 n
    generalize gs (bK (dA names bits)) n = sn at *
    clear hR hlt
    gi_wp2_with (rw [Oper.semAt_eq _ _ _ (fun c h => by cases h)]; go_simp; try go_bits)
    gi_loopw [10, 30] (fun _ i wr => ∃ (m : Nat) (ov : Value), m ≤ (bK (dB names bits)).length ∧ i = .int .i64 m ∧ Hid (xP w L W W2 w9.heap.size wr ov ((kF names pre ++ qM names bits n) ++ ((bK (dB names bits)).take m).map fun t => pairT sn t))) (fun _ i _ => (bK (dB names bits)).length - (intOf i).toNat)
    case atStart => exact ⟨0, _, Nat.zero_le _, rfl, by rw [List.take_zero, List.map_nil, List.append_nil]; exact HR.out⟩
    case round =>
     obtain ⟨m, ov2, hm, rfl, Ek⟩ := hrel
     obtain ⟨wi, rfl⟩ : ∃ wi : World, wi = wr := ⟨_, rfl⟩
     have j0 : (0 : Int) ≤ (m : Int) := by omega
     by_cases hlm : m < (bK (dB names bits)).length
     ·obtain ⟨bb, bo, rfl, hcb⟩ := cu (av.keep ct.out Ek.out.kept) hlm
      have j1 : (m : Int) < ((bK (dB names bits)).length : Int) := by omega
      have j2 : (m : Int) < 16 := by have := Cu.out.1; omega
      have Ct := aa hlm
      have Et := aa Ek.out
      have kj := Ek.out.cells.1
      have jP : Hid (((bK (dB names bits)).take (m + 1)).map (fun t => pairT sn t) = ((bK (dB names bits)).take m).map (fun t => pairT sn t) ++ [pairT sn (gs (bK (dB names bits)) m)]) := by
       unfold Hid
       rw [List.take_succ_eq_append_getElem hlm, List.map_append]
       simp [gs, hlm]
      have z1 := HZN.out
      have z2 : (gs (bK (dB names bits)) m).size ≤ 100 := Cu.out.2 m
      have nG : Hid ((((kF names pre ++ qM names bits n) ++ ((bK (dB names bits)).take m).map fun t => pairT sn t).map Value.string).length ≤ 1000000) := by
       have h1 := HPF.out
       have h2 := Cu.out.1
       have h3 := yJ.out.1
       have h4 : (qM names bits n).length ≤ 15 * 15 := by
        unfold qM
        have q := mY (f := fun s => (bK (dB names bits)).map fun t => pairT s t) (K := 15) ((bK (dA names bits)).take n) fun s _ => by rw [List.length_map]; exact h2
        rw [List.length_take] at q
        exact Nat.le_trans q (Nat.mul_le_mul_right _ (by omega))
       unfold Hid
       simp only [List.length_map, List.length_append, List.length_take]
       omega
      generalize gs (bK (dB names bits)) m = tm at *
      obtain ⟨T, hT⟩ : ∃ T, T = (kF names pre ++ qM names bits n) ++ ((bK (dB names bits)).take m).map fun t => pairT sn t := ⟨_, rfl⟩
      rw [← hT] at Et nG
      have HT : Hid ((kF names pre ++ qM names bits n) ++ ((bK (dB names bits)).take (m + 1)).map (fun t => pairT sn t) = T ++ [pairT sn tm]) := by
       unfold Hid; rw [jP.out, ← List.append_assoc, ← hT]
      obtain ⟨oq, oc, JS, -⟩ := Et.out.own.form (n := T.length) (by simp)
      subst JS
      have QC : Hid (w9.heap.size ≤ w9.heap.size ∧ w.heap.size + 1 ≤ wi.heap.size) := ⟨Nat.le_refl _, by have h1 := Et.out.size; have h2 := bH.out.size; have h3 := QT.out.1; omega⟩
      clear Ek hlm hm hT jP
      gi_wp2_with (first
       | (gi_at_builtin; refine qU wi rfl _ _ 22 rfl (w.heap.size + 1) 9 (.string ⟨#[]⟩) 16 Tryz.underlying22 Tryz.jf rfl (by decide) Et.out.own rfl _ rfl rfl T.length (List.length_map _) (by have h := nG.out; rw [List.length_map] at h; exact h) QC.out.2 ?_; intro g8 iz w8 cA dw gC; obtain ⟨⟨Qv, Vl⟩, hP8⟩ := Et.out.push (s := pairT sn tm) QT.out.1 QT.out.2.1 (fun b hb => Nat.lt_of_lt_of_le (QT.out.2.2.2 b hb) Et.out.size) QT.out.2.2.1 cA dw gC; have HP8 := aa hP8; clear cA dw gC hP8)
       | (rw [Oper.semAt_eq _ _ _ (fun c h => by cases h)]; go_simp; try go_bits))
      go_roundw
      case rel => exact ⟨m + 1, _, Ct.out, by go_num, by rw [HT.out]; exact HP8.out⟩
      case measure => have := Ct.out; simp [intOf]; omega
     ·obtain rfl : m = (bK (dB names bits)).length := by omega
      have HKE : Hid (kF names pre ++ qM names bits (n + 1) = (kF names pre ++ qM names bits n) ++ ((bK (dB names bits)).take (bK (dB names bits)).length).map fun t => pairT sn t) := by
       unfold Hid; rw [PM.out, List.take_length, List.append_assoc]
      gi_wp2_with (rw [Oper.semAt_eq _ _ _ (fun c h => by cases h)]; go_simp; try go_bits)
      go_roundw
      case rel => exact ⟨n + 1, _, aY.out, by go_num, by rw [HKE.out]; exact Ek.out⟩
      case measure => have := aY.out; simp [intOf]; omega
   ·obtain rfl : n = (bK (dA names bits)).length := by omega
    have qI : Hid (kF names pre ++ qM names bits (bK (dA names bits)).length = kF names (pre ++ [(bits, va, vb)])) := by
     unfold Hid; rw [WQ, TA]
    gi_wp2_with (rw [Oper.semAt_eq _ _ _ (fun c h => by cases h)]; go_simp; try go_bits)
    exact hR.out.fin HI.out bH.out dF.out qI.out
 ·intro D xs L W hD hS hI hK
  obtain ⟨ov, e1, e2, e3⟩ := hI.ex
  obtain ⟨oq, oc, rfl, -⟩ := e2.form (n := (kF names xs).length) (by simp)
  have Y3 : W.cell? ⟨w.heap.size, 0, none⟩ = some (.slice oq (kF names xs).length oc) := by simp [World.cell?, e1]
  have HK := aa hK
  have y7 := aa e2
  have HI := aa hI
  have HT : Hid (kF names xs = bK names) := by unfold Hid kF; rw [hS, rtT_eq h2]
  clear e1 e2 e3 hI hS hK hseq hI0
  gi_wp2_with fail
  have hq : ∀ b, b ≠ D → (W.putObj D (.deferred none)).heap[b]? = W.heap[b]? := fun b hb => World.putObj_heap_other hb
  have hu := HI.out.up
  have h9 := H9.out
  have hne : ∀ b, (Value.slice oq (kF names xs).length oc).ownBlock = some b → b ≠ D := fun b hb e => by
   subst e
   obtain ⟨c, h10⟩ := aA.GU y7.out hb
   rw [HK.out] at h10; injection h10 with h10; cases h10
  refine ⟨by simp, .inl ⟨_, _, rfl, run_takeDeferred HK.out, ?_⟩⟩
  refine ⟨.slice oq (kF names xs).length oc, by simp [results, Tryz.results130, go_sem], ⟨hu.os, hu.tape, hu.output, by have h := hu.size; simpa using h, fun b hb => (hq b (by omega)).trans (hu.block b hb)⟩, _, rfl, ?_⟩
  have h3 := y7.out.eV fun b hb => hq b (hne b hb)
  rw [← HT.out]
  exact h3.strs.sub fun b hb _ => .inr (by omega)
end
section
open Go.RowKit Go.Deep
end
section
def ru : List ByteArray := [⟨#[65]⟩, ⟨#[66]⟩, ⟨#[67]⟩, ⟨#[68]⟩]
def vM : List (List Int) := [[0], [0], [1], [1]]
def JT : List (List Int) := [[0, 2], [0, -1], [1, 3]]
def tD : ax := ⟨[-1, 0, 0, 2, 2, 4, 4], [⟨#[]⟩, ⟨#[65]⟩, ⟨#[]⟩, ⟨#[66]⟩, ⟨#[]⟩, ⟨#[67]⟩, ⟨#[68]⟩]⟩
def DY : ax := ⟨[-1, 0, 0, 2, 3, 3, 2], [⟨#[]⟩, ⟨#[65]⟩, ⟨#[]⟩, ⟨#[]⟩, ⟨#[66]⟩, ⟨#[67]⟩, ⟨#[68]⟩]⟩
def DZ : ax := ⟨[-1, 0, 0, 2, 3, 3, 2], [⟨#[]⟩, ⟨#[65]⟩, ⟨#[]⟩, ⟨#[]⟩, ⟨#[66]⟩, ⟨#[68]⟩, ⟨#[67]⟩]⟩
theorem QU : allT ru = [DY, DZ, tD] := by decide +kernel
theorem JU : dQ ru vM = 0 := by decide +kernel
theorem aw_s : cN tD ru vM = 1 ∧ cN DY ru vM = 2 ∧ cN DZ ru vM = 2 := by decide +kernel
theorem JV : kE ru vM = 1 := by
 obtain ⟨h1, h2, h3⟩ := aw_s
 unfold kE
 rw [QU]
 show mnK (fun k => cN (gt [DY, DZ, tD] k) ru vM) 3 = 1
 have e0 : cN (gt [DY, DZ, tD] 0) ru vM = 2 := h2
 have e1 : cN (gt [DY, DZ, tD] 1) ru vM = 2 := h3
 have e2 : cN (gt [DY, DZ, tD] 2) ru vM = 1 := h1
 simp [mnK, e0, e1, e2]
theorem WR : xk ru vM = [tD] := by
 obtain ⟨h1, h2, h3⟩ := aw_s
 unfold xk
 rw [QU, JV]
 simp [h1, h2, h3]
theorem Bu : cB JT = 0 ∧ JR JT = 2 := by decide +kernel
end
section
open Go.RowKit Go.Deep
theorem TD (names : List ByteArray) (k : Nat) : ((List.range k).any fun j => decide (gs names k = gs names j)) = dI names k := by
 unfold dI
 congr 1; funext j
 by_cases e : gs names j = gs names k
 ·rw [decide_eq_true e, decide_eq_true e.symm]
 ·rw [decide_eq_false e, decide_eq_false fun q => e q.symm]
end
end Go.Proofs.YteegefnjnikngaaGreat
