/- Plain laws for ParsimonyFitch: the cost as a sum over edges, different states counted, .. -/
import Derived.Test.YthgabkgmkolobaaGreatQ1
import Derived.Test.YthgabkgmkolobaaGreatQ30
import Derived.Test.YthgabkgmkolobaaGreatQ29
import Derived.Test.YthgabkgmkolobaaGreatQ7
import Derived.Test.YthgabkgmkolobaaGreatQ26
import Derived.Test.YthgabkgmkolobaaGreatQ27
import Derived.StillTail
import Derived.Laws.IdiomStrings
import Derived.Sort.OwnSorted
import Derived.Shelf.Slices.In.SortNone
import Derived.Shelf.SlGeneric
import Derived.Shelf.Lays
import Derived.Shelf.Sort.Plain
import Derived.Ground.NamesProg
import Derived.Test.YthgabkgmkolobaaGreatProg
import Derived.Test.YthgabkgmkolobaaGreatQ22
import Derived.Test.YthgabkgmkolobaaGreatQ23
import Derived.Test.YthgabkgmkolobaaGreatQ19
import Derived.Test.YthgabkgmkolobaaGreatQ15
import Derived.Test.YthgabkgmkolobaaGreatQ6
import Derived.Test.YthgabkgmkolobaaGreatQ17
import Derived.Test.YthgabkgmkolobaaGreatQ5
import Derived.Test.YthgabkgmkolobaaGreatQ3
import Derived.Test.YthgabkgmkolobaaGreatQ21
import Derived.Test.YthgabkgmkolobaaGreatQ2
import Derived.Test.YthgabkgmkolobaaGreatQ8
import Derived.Test.YthgabkgmkolobaaGreatQ24
import Derived.Test.YthgabkgmkolobaaGreatQ25
set_option maxRecDepth 100000
namespace Go.Proofs.YthgabkgmkolobaaGreat
section
def dd : List Int → List Int
 | [] => []
 | x :: l => if x ∈ dd l then dd l else x :: dd l
theorem mm {x : Int} : ∀ {l : List Int}, x ∈ dd l ↔ x ∈ l
 | [] => Iff.rfl
 | y :: l => by
  unfold dd
  split
  ·rename_i h
   rw [mm (l := l), List.mem_cons]
   exact ⟨.inr, fun h2 => h2.elim (fun e => by rw [e]; exact mm.1 h) id⟩
  ·rw [List.mem_cons, List.mem_cons, mm (l := l)]
theorem oZ : ∀ l : List Int, (dd l).Nodup
 | [] => List.nodup_nil
 | y :: l => by
  unfold dd
  split
  ·exact oZ l
  ·rename_i h; exact List.nodup_cons.2 ⟨h, oZ l⟩
end
section
theorem Z9 : nu (bE 16) = 0 := by decide +kernel
theorem st_bd {st : List Int} {m : Int} (h : iy st (-1) m = false) {k : Nat} (hk : k < st.length) : -1 ≤ gi st k ∧ gi st k < m := by
 have := any_false h hk
 simp at this; omega
theorem Cg {l : List Int} {x : Int} (h : x ∈ l) : ∃ k, k < l.length ∧ gi l k = x := by
 obtain ⟨k, hk, e⟩ := List.mem_iff_getElem.1 h
 exact ⟨k, hk, by simp [gi, hk, e]⟩
section
variable {t : ay} {st : List Int}
def cm (st : List Int) : List Int := st.filter fun s => decide (0 ≤ s)
end
end
section
open Go.RowKit Go.Shelf Go.Deep Go.Sort
set_option maxHeartbeats 400000 in
theorem Kj (w : World) (mp : Option Addr) (n c : Nat) : Calls Tryz.prog 164 #[.slice mp n c] w fun e w' => e = .returned (.func (.func 215) #[] #[.pointer (some ⟨w.heap.size, 0, none⟩)]) ∧ w' = w.alloc (.cells #[.slice mp n c] 22) := by
 go_enter Tryz.func164, Tryz.ntmps164
 go_wp2_with fail
 go_ret
 exact ⟨by simp, rfl⟩
abbrev Dv := Nat × Value × Value
def GvD (names : List ByteArray) (x : Dv) (L : Nat → Prop) (W : World) : Prop := (1 ≤ x.1 ∧ x.1 < 2 ^ (names.length - 1)) ∧ ah L W x.2.1 (dA names x.1) ∧ ah L W x.2.2 (dB names x.1)
theorem Wk {names : List ByteArray} {B : Nat} (x : Dv) (L : Nat → Prop) : OwnFrom B (fun (_ : Unit) W => GvD names x L W) := by
 intro s X Y row h hg hr
 obtain ⟨h1, h2, h3⟩ := h
 exact ⟨h1, aB.grown h2 hg fun r e => (hr r e).2, aB.grown h3 hg fun r e => (hr r e).2⟩
theorem IC : ∀ q : Nat, q < 8 → bits BinOp.and IntKind.i64 ((q : Nat) : Int) 1 = ((q : Nat) : Int) % 2 := by decide +kernel
theorem Lv (k i : Nat) : (((k / 2 ^ i : Nat) : Int)) % 2 = if k.testBit i then 1 else 0 := by
 rw [Nat.testBit_eq_decide_div_mod_eq]
 generalize k / 2 ^ i = q
 by_cases h : q % 2 = 1
 ·rw [decide_eq_true h, if_pos rfl]; omega
 ·rw [decide_eq_false h, if_neg (by decide)]; omega
structure Dup (B : Nat) (W : World) (a b : Value) (A C : List ByteArray) : Prop where
 ao : aC B 9 W a (A.map Value.string)
 bo : aC B 9 W b (C.map Value.string)
 ap : ∀ g, a.ownBlock = some g → b.ownBlock ≠ some g
theorem Dup.appA {B : Nat} {W W' : World} {a b : Value} {A C : List ByteArray} {g cap k : Nat} {s : ByteArray} (h : Dup B W a b A C) (ho : aC B 9 W' (.slice (some ⟨g, 0, none⟩) k cap) (A.map Value.string ++ [.string s])) (hg : W.grownBy W' a.ownBlock) (ep : a.ownBlock = some g ∨ W.heap.size ≤ g) : Dup B W' (.slice (some ⟨g, 0, none⟩) k cap) b (A ++ [s]) C := by
 refine ⟨by rw [List.map_append]; exact ho, h.bo.eD fun x hx => hg.block x (aF h.bo hx).2 fun e => h.ap x e.symm hx, fun x hx hx2 => ?_⟩
 have hx : some g = some x := hx
 injection hx with hx; subst hx
 rcases ep with e | e
 ·exact h.ap g e hx2
 ·have := (aF h.bo hx2).2; omega
theorem Dup.appB {B : Nat} {W W' : World} {a b : Value} {A C : List ByteArray} {g cap k : Nat} {s : ByteArray} (h : Dup B W a b A C) (ho : aC B 9 W' (.slice (some ⟨g, 0, none⟩) k cap) (C.map Value.string ++ [.string s])) (hg : W.grownBy W' b.ownBlock) (ep : b.ownBlock = some g ∨ W.heap.size ≤ g) : Dup B W' a (.slice (some ⟨g, 0, none⟩) k cap) A (C ++ [s]) := by
 refine ⟨h.ao.eD fun x hx => hg.block x (aF h.ao hx).2 fun e => h.ap x hx e.symm, by rw [List.map_append]; exact ho, fun x hx hx2 => ?_⟩
 have hx2 : some g = some x := hx2
 injection hx2 with hx2; subst hx2
 rcases ep with e | e
 ·exact h.ap g hx e
 ·have := (aF h.ao hx).2; omega
section
variable {w0 w9 : World} {names : List ByteArray} {Bt N : Nat}
set_option maxHeartbeats 2000000 in
theorem SR (m : Nat) {mp : Option Addr} {mc : Nat} (h2 : 2 ≤ names.length) (h4 : names.length ≤ 4) (hB : w0.heap.size ≤ Bt)
  (hb : w9.cell? ⟨Bt, 0, none⟩ = some (.slice mp names.length mc)) (ID : ah Any w0 (.slice mp names.length mc) names) (hN : 2 ^ (names.length - 1) - 1 ≤ N) :
  Z6 Fence.wide m Tryz.prog 215 #[.pointer (some ⟨Bt, 0, none⟩)] (fun x : Dv => #[x.2.1, x.2.2]) (GvD names) (fun _ _ => False) (fun xs => xs.map (·.1) = List.range' 1 (2 ^ (names.length - 1) - 1)) N w0 w9 (fun b => b = Bt) := by
 intro l J W hW hL9 hW9 hA hY hJ
 obtain ⟨Vh, kt1⟩ := hL9 Bt rfl
 have wB := (World.cell?_of_block (a := ⟨Bt, 0, none⟩) kt1).trans hb
 obtain ⟨nb, no, rfl, hc0⟩ := bz ID (k := 0) (by omega)
 obtain ⟨M, hM⟩ : ∃ M, M = 2 ^ (names.length - 1) := ⟨_, rfl⟩
 have PT : M ≤ 8 := by rw [hM]; exact Nat.pow_le_pow_right (n := 2) (by decide) (show names.length - 1 ≤ 3 by omega)
 have hM1 : 1 ≤ M := by rw [hM]; exact Nat.one_le_two_pow
 have Vi : wrap64 ((2 : Int) ^ (names.length - 1)) = (M : Int) := by
  have : (2 : Int) ^ (names.length - 1) = ((2 ^ (names.length - 1) : Nat) : Int) := by simp
  rw [this, ← hM]; unfold wrap64; omega
 have hmc : names.length ≤ mc := by
  obtain ⟨_, _, e, h, _⟩ := aB.open ID
  injection e with e1 e2 e3
  omega
 have ij : Hid (∀ i, i < names.length → ∀ W, Up w0 W → W.cell? ⟨nb, no + i, none⟩ = some (.string (gs names i))) := fun i hi W hW => hW.cell (aB.at0 ID hi)
 rw [← hM] at hN
 have PU : Hid (J [] (fun b => b = Bt) W) := hJ
 have HY := aa hY
 have HA := aa hA
 have HW := aa hW
 have Zz := aa wB
 have HL : Hid (Bt < W.heap.size) := Nat.lt_of_lt_of_le Vh hW9
 have HM := aa hM
 have HN := aa hN
 have HB := aa hB
 have HMB : Hid (M ≤ 8) := PT
 clear hW hL9 hW9 hA hY hJ kt1 Vh ID hc0 hb hM hN hB
 refine callsIn_of_wp Tryz.func215 rfl trivial ?_ rfl
 simp only [Tryz.ntmps215, List.size_toArray, List.length_cons, List.length_nil, Nat.reduceAdd, Nat.reduceSub, Array.replicate_succ, Array.replicate_zero, List.push_toArray, List.append_toArray, List.nil_append, List.cons_append]
 gi_wp2
 gi_loopw [3, 4, 5, 6, 7] (fun i _ _ _ _ wr => ∃ (k : Nat) (ys : List Dv) (L' : Nat → Prop), 1 ≤ k ∧ k ≤ M ∧ i = .int .i64 k ∧ Hid (ys.map (·.1) = List.range' 1 (k - 1)) ∧ Hid (J ys L' wr) ∧ Hid (Below w0.heap.size w0 wr) ∧ Hid (∀ b, L' b → w0.heap.size ≤ b ∧ b < wr.heap.size) ∧ Hid (L' Bt) ∧ Hid (wr.cell? ⟨Bt, 0, none⟩ = some (.slice (some ⟨nb, no, none⟩) names.length mc))) (fun i _ _ _ _ _ => M - (intOf i).toNat)
 case atStart => exact ⟨1, [], _, Nat.le_refl _, hM1, rfl, rfl, PU.out, HW.out, fun b hb => by rw [hb]; exact ⟨HB.out, HL.out⟩, rfl, Zz.out⟩
 case round =>
  obtain ⟨k, ys, L', hk1, hk, rfl, hys, hJk, PV, Ch, hLB, hcB⟩ := hrel
  obtain ⟨wo, rfl⟩ : ∃ wo : World, wo = wr := ⟨_, rfl⟩
  have hcb := hcB.out
  have hn0 := ij.out 0 (by omega) wo PV.out
  rw [Nat.add_zero] at hn0
  have i0 : (0 : Int) ≤ (k : Int) := by omega
  by_cases hlt : k < M
  ·have i1 : (k : Int) < (M : Int) := by omega
   have i2 : (k : Int) < 8 := by omega
   have i3 : 0 < names.length := by omega
   have i4 : (0 : Int) < (names.length : Int) := by omega
   have i5 : (1 : Int) ≤ (names.length : Int) := by omega
   have i6 : 1 ≤ names.length := by omega
   have i7 : ¬ mc = 1 := by omega
   have i8 : names.length ≤ mc := hmc
   have aR := Up.alloc wo (.cells #[.string (gs names 0)] 9)
   have hD0 : Dup wo.heap.size (wo.alloc (.cells #[.string (gs names 0)] 9)) (.slice (some ⟨wo.heap.size, 0, none⟩) 1 1) (.slice none 0 0) [gs names 0] [] := ⟨Iy wo _ _ _ (Nat.le_refl _), aC.nil _ _ _, fun g _ e => by cases e⟩
   have Vj := aa hD0
   have bH := aa aR
   have hcb1 := aR.cell hcb
   clear hD0 aR
   gi_wp2
   generalize wo.alloc (.cells #[.string (gs names 0)] 9) = w1 at *
   simp only [Vi]
   clear Vi
   gi_loopw [4, 5, 6, 7, 23] (fun a b _ _ i wr => ∃ j : Nat, j ≤ names.length - 1 ∧ i = .int .i64 j ∧ Hid (Dup wo.heap.size wr a b (gs names 0 :: aW (fun i => !k.testBit i) names.tail j) (aW (fun i => k.testBit i) names.tail j)) ∧ Hid (Up wo wr)) (fun _ _ _ _ i _ => names.length - 1 - (intOf i).toNat)
   case atStart => exact ⟨0, Nat.zero_le _, rfl, Vj.out, bH.out⟩
   case round =>
    obtain ⟨j, hj, rfl, hD, hU⟩ := hrel
    obtain ⟨wi, rfl⟩ : ∃ wi : World, wi = wr := ⟨_, rfl⟩
    have j0 : (0 : Int) ≤ (j : Int) := by omega
    by_cases hlj : j < names.length - 1
    ·have um := ij.out (j + 1) (by omega) wi (PV.out.trans (hU.out.mono PV.out.size))
     rw [show no + (j + 1) = no + 1 + j by omega] at um
     have j1 : (j : Int) < ((names.length - 1 : Nat) : Int) := by omega
     have j2 : (j : Int) < 4 := by omega
     have uU : bits BinOp.and IntKind.i64 ((k : Int) / 2 ^ j) 1 = if k.testBit j then 1 else 0 := by
      have e : (k : Int) / 2 ^ j = ((k / 2 ^ j : Nat) : Int) := by simp
      have : k / 2 ^ j ≤ k := Nat.div_le_self _ _
      rw [e, IC _ (by omega), Lv]
     have iV := aa (iG (fun i => !k.testBit i) names.tail j)
     have bY := aa (iG (fun i => k.testBit i) names.tail j)
     have tH : Hid (names.tail.getD j default = gs names (j + 1)) := by
      unfold Hid gs
      cases names with
      | nil => simp at hlj
      | cons a l => rfl
     have kX := aa hlj
     have yg : Hid (((gs names 0 :: aW (fun i => !k.testBit i) names.tail j).map Value.string).length ≤ 1000000 ∧ ((aW (fun i => k.testBit i) names.tail j).map Value.string).length ≤ 1000000) := by
      have a1 := jv (fun i => !k.testBit i) names.tail j
      have a2 := jv (fun i => k.testBit i) names.tail j
      unfold Hid
      rw [List.length_map, List.length_map, List.length_cons]
      omega
     have ct : Hid (wo.heap.size ≤ wi.heap.size) := hU.out.size
     obtain ⟨ap, ac, rfl, -⟩ := hD.out.ao.form rfl
     obtain ⟨bp, bc, rfl, -⟩ := hD.out.bo.form rfl
     rw [tH.out] at iV bY
     clear hlj
     cases hb : k.testBit j
     ·rw [hb] at uU iV bY
      have uU : bits BinOp.and IntKind.i64 ((k : Int) / 2 ^ j) 1 = 0 := uU
      have iV : Hid (aW (fun i => !k.testBit i) names.tail (j + 1) = aW (fun i => !k.testBit i) names.tail j ++ [gs names (j + 1)]) := iV.out
      have bY : Hid (aW (fun i => k.testBit i) names.tail (j + 1) = aW (fun i => k.testBit i) names.tail j) := by unfold Hid; rw [bY.out]; simp
      clear hb
      gi_wp2_with (gi_at_builtin; refine qu wi rfl _ _ 22 rfl wo.heap.size 9 (.string ⟨#[]⟩) 16 Tryz.underlying22 Tryz.fo rfl (by decide) hD.out.ao rfl (.string (gs names (j + 1))) rfl rfl _ rfl yg.out.1 ct.out ?_; intro g8 gW w8 bU cG fq; have IE := aa (hD.out.appA bU cG fq); have kY := aa (hD.out.ao.dy cG ct.out); clear bU cG fq)
      go_roundw
      case rel => exact ⟨j + 1, by have := kX.out; omega, by go_num, by rw [iV.out, bY.out]; have q := IE.out; simp only [List.length_map, List.length_cons] at q; exact q, Below.trans (show Below wo.heap.size wo wi from hU.out) kY.out⟩
      case measure => have := kX.out; simp [intOf]; omega
     ·rw [hb] at uU iV bY
      have uU : bits BinOp.and IntKind.i64 ((k : Int) / 2 ^ j) 1 = 1 := uU
      have iV : Hid (aW (fun i => !k.testBit i) names.tail (j + 1) = aW (fun i => !k.testBit i) names.tail j) := by unfold Hid; rw [iV.out]; simp
      have bY : Hid (aW (fun i => k.testBit i) names.tail (j + 1) = aW (fun i => k.testBit i) names.tail j ++ [gs names (j + 1)]) := bY.out
      clear hb
      gi_wp2_with (gi_at_builtin; refine qu wi rfl _ _ 22 rfl wo.heap.size 9 (.string ⟨#[]⟩) 16 Tryz.underlying22 Tryz.fo rfl (by decide) hD.out.bo rfl (.string (gs names (j + 1))) rfl rfl _ rfl yg.out.2 ct.out ?_; intro g8 gW w8 bU cG fq; have IE := aa (hD.out.appB bU cG fq); have kY := aa (hD.out.bo.dy cG ct.out); clear bU cG fq)
      go_roundw
      case rel => exact ⟨j + 1, by have := kX.out; omega, by go_num, by rw [iV.out, bY.out]; have q := IE.out; simp only [List.length_map, List.length_cons] at q; exact q, Below.trans (show Below wo.heap.size wo wi from hU.out) kY.out⟩
      case measure => have := kX.out; simp [intOf]; omega
    ·obtain rfl : j = names.length - 1 := by omega
     obtain ⟨ap, ac, hae, -⟩ := hD.out.ao.form rfl
     obtain ⟨bp, bc, x4, -⟩ := hD.out.bo.form rfl
     subst hae
     subst x4
     obtain ⟨va, hva⟩ : ∃ va, va = Value.slice ap ((gs names 0 :: aW (fun i => !k.testBit i) names.tail (names.length - 1)).map Value.string).length ac := ⟨_, rfl⟩
     obtain ⟨vb, hvb⟩ : ∃ vb, vb = Value.slice bp ((aW (fun i => k.testBit i) names.tail (names.length - 1)).map Value.string).length bc := ⟨_, rfl⟩
     rw [← hva, ← hvb] at hD
     have hj7 : J ys (fun b => L' b ∨ (wo.heap.size ≤ b ∧ b < wi.heap.size)) wi := HA.out ys L' _ wo wi hJk.out ⟨hU.out.os, hU.out.tape, hU.out.output, hU.out.size, fun b hb _ => Below.block hU.out b hb, fun b hb => hb.imp (fun e => ⟨e, (Ch.out b e).2⟩) id⟩
     have PR : GvD names (k, va, vb) (fun b => L' b ∨ (wo.heap.size ≤ b ∧ b < wi.heap.size)) wi := ⟨⟨hk1, by rw [← HM.out]; exact hlt⟩, hD.out.ao.strs.sub fun b hb hl => .inr ⟨hb, hl⟩, hD.out.bo.strs.sub fun b hb hl => .inr ⟨hb, hl⟩⟩
     have hys2 := congrArg List.length hys.out
     rw [List.length_map, List.length_range'] at hys2
     have hwi := hU.out.size
     have hwo := PV.out.size
     obtain ⟨fn, tmps, assign, body, hy, hR⟩ := HY.out ys (k, va, vb) _ wi hj7 PR (PV.out.trans (hU.out.mono hwo)) (fun b hb => by
      rcases hb with hb | hb
      ·have := Ch.out b hb; omega
      ·omega) (by have := HN.out; omega)
     have HYS : Hid ((ys ++ [(k, va, vb)]).map (·.1) = List.range' 1 k) := by
      unfold Hid
      rw [List.map_append, hys.out]
      have : k = (k - 1) + 1 := by omega
      conv => rhs; rw [this, List.range'_concat]
      simp; omega
     have xQ : Hid (∀ b, (L' b ∨ (wo.heap.size ≤ b ∧ b < wi.heap.size)) → w0.heap.size ≤ b ∧ b < wi.heap.size) := fun b hb => by
      rcases hb with hb | hb
      ·have := Ch.out b hb; omega
      ·omega
     have hcb2 := hU.out.cell hcb
     have HCB2 := aa hcb2
     have aV := aa hlt
     simp only at hy
     clear hj7 PR hys2 hD hwi hwo Vj
     rw [← hva, ← hvb]
     clear hva hvb
     gi_wp2
     first | refine ⟨trivial, fun h => (by cases h), ?_⟩ | refine ⟨fun h => (by cases h), ?_⟩
     refine hR.mono ?_
     rintro e W7 ⟨rfl, hj8, kY, hs8, hk8⟩
     have H8 := aa (⟨hj8, kY, hs8, hk8⟩ : _ ∧ _ ∧ _ ∧ _)
     clear hj8 kY hs8 hk8 hR
     gi_wp2
     go_roundw
     case rel => exact ⟨k + 1, ys ++ [(k, va, vb)], _, by omega, aV.out, by go_num, HYS.out, H8.out.1, H8.out.2.1, fun b hb => by have h1 := xQ.out b hb; have h2 := H8.out.2.2.1; omega, .inl hLB.out, (World.cell?_of_block (a := ⟨Bt, 0, none⟩) (H8.out.2.2.2 Bt (.inl (.inl hLB.out)))).trans HCB2.out⟩
     case measure => have := aV.out; simp [intOf]; omega
  ·obtain rfl : k = M := by omega
   gi_wp2
   go_end0
   exact ⟨⟨_, rfl⟩, ys, L', by rw [hys.out, HM.out], hJk.out⟩
end
end
section
def nX (t : ay) (names : List ByteArray) (st : List Int) (n : Nat) : List Int := (List.range n).map fun j => gi st (ir names (gs t.ns (gi (aj t.ns) j).toNat)).toNat
theorem o5 (t : ay) (names : List ByteArray) (st : List Int) (n : Nat) : (nX t names st n).length = n := by simp [nX]
theorem Dl {t : ay} {names : List ByteArray} {st : List Int} {n j : Nat} (h : j < n) : gi (nX t names st n) j = gi st (ir names (gs t.ns (gi (aj t.ns) j).toNat)).toNat := by simp [nX, gi, h]
theorem PW (t : ay) (names : List ByteArray) (st : List Int) (n : Nat) : nX t names st (n + 1) = nX t names st n ++ [gi st (ir names (gs t.ns (gi (aj t.ns) n).toNat)).toNat] := by simp [nX, List.range_succ]
section
variable {t : ay} {names : List ByteArray} {st : List Int}
theorem IG (h : kW t names) {v : Nat} (hv : v < t.ps.length) (h0 : (gs t.ns v).size ≠ 0) : ∃ b : Nat, b < names.length ∧ gs names b = gs t.ns v ∧ ir names (gs t.ns v) = (b : Int) := by
 obtain ⟨b, hb, e⟩ := h.has v hv h0
 exact ⟨b, hb, e, by rw [← e]; exact Ve h.nd hb⟩
end
end
section
section
variable {t : ay} {st : List Int} {cs : List (List Int)} {aQ : ByteArray → Int}
theorem yM (he : az t = 0) {i : Nat} (hi : i < t.ps.length) (hk : aS t.ps i = []) : cV t i := ⟨he, hi, fL (tX he hi hk)⟩
end
section
variable {t : ay} {st : List Int} {cs : List (List Int)} {leaf : Nat}
theorem Kk {ns : List ByteArray} {j : Nat} (hj : j < ns.length) (h0 : (gs ns j).size ≠ 0) : 0 ≤ eM ns j := by
 have hm : (j : Int) ∈ aj ns := tQ.2 ⟨j, rfl, hj, h0⟩
 obtain ⟨i, hi, e⟩ := Cg hm
 unfold eM
 have := l7 (fun i => decide ((j : Int) = gi (aj ns) i)) (aj ns).length
 rw [nv hi (decide_eq_true e.symm)] at this
 exact of_decide_eq_true this
end
end
end Go.Proofs.YthgabkgmkolobaaGreat
