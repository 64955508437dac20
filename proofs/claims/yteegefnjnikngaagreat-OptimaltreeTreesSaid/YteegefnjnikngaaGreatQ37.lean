/- The contract of the reference's table. The iterator of optimaltree.divisions. The laws .. -/
import Derived.Test.YteegefnjnikngaaGreatQ1
import Derived.Test.YteegefnjnikngaaGreatQ36
import Derived.Test.YteegefnjnikngaaGreatQ25
import Derived.Test.YteegefnjnikngaaGreatQ35
import Derived.Test.YteegefnjnikngaaGreatQ34
import Derived.Test.YteegefnjnikngaaGreatQ26
import Derived.Test.YteegefnjnikngaaGreatQ17
import Derived.Test.YteegefnjnikngaaGreatQ16
import Derived.Deep.RegionWith
import Derived.Deep.RegionHeld
import Derived.Shelf.Bits.Mul64
import Derived.Test.YteegefnjnikngaaGreatProg
set_option maxRecDepth 100000
namespace Go.Proofs.YteegefnjnikngaaGreat
section
open Go.RowKit Go.Deep
end
section
open Go.RowKit Go.Shelf Go.Deep Go.Sort
set_option maxHeartbeats 400000 in
theorem FU (w : World) (mp : Option Addr) (n c : Nat) : Calls Tryz.prog 178 #[.slice mp n c] w fun e w' => e = .returned (.func (.func 231) #[] #[.pointer (some ⟨w.heap.size, 0, none⟩)]) ∧ w' = w.alloc (.cells #[.slice mp n c] 22) := by
 go_enter Tryz.func178, Tryz.ntmps178
 go_wp2_with fail
 go_ret
 exact ⟨by simp, rfl⟩
abbrev Dv := Nat × Value × Value
def Vi (names : List ByteArray) (x : Dv) (L : Nat → Prop) (W : World) : Prop := (1 ≤ x.1 ∧ x.1 < 2 ^ (names.length - 1)) ∧ au L W x.2.1 (dA names x.1) ∧ au L W x.2.2 (dB names x.1)
theorem Rg {names : List ByteArray} {B : Nat} (x : Dv) (L : Nat → Prop) : OwnFrom B (fun (_ : Unit) W => Vi names x L W) := by
 intro s X Y row h hg hr
 obtain ⟨h1, h2, h3⟩ := h
 exact ⟨h1, aA.grown h2 hg fun r e => (hr r e).2, aA.grown h3 hg fun r e => (hr r e).2⟩
theorem EJ : ∀ q : Nat, q < 8 → bits BinOp.and IntKind.i64 ((q : Nat) : Int) 1 = ((q : Nat) : Int) % 2 := by decide +kernel
theorem GQ (k i : Nat) : (((k / 2 ^ i : Nat) : Int)) % 2 = if k.testBit i then 1 else 0 := by
 rw [Nat.testBit_eq_decide_div_mod_eq]
 generalize k / 2 ^ i = q
 by_cases h : q % 2 = 1
 ·rw [decide_eq_true h, if_pos rfl]; omega
 ·rw [decide_eq_false h, if_neg (by decide)]; omega
structure Dup (B : Nat) (W : World) (a b : Value) (A C : List ByteArray) : Prop where
 ao : az B 9 W a (A.map Value.string)
 bo : az B 9 W b (C.map Value.string)
 ap : ∀ g, a.ownBlock = some g → b.ownBlock ≠ some g
theorem Dup.Vj {B : Nat} {W W' : World} {a b : Value} {A C : List ByteArray} {g cap k : Nat} {s : ByteArray} (h : Dup B W a b A C) (ho : az B 9 W' (.slice (some ⟨g, 0, none⟩) k cap) (A.map Value.string ++ [.string s])) (hg : W.grownBy W' a.ownBlock) (dw : a.ownBlock = some g ∨ W.heap.size ≤ g) : Dup B W' (.slice (some ⟨g, 0, none⟩) k cap) b (A ++ [s]) C := by
 refine ⟨by rw [List.map_append]; exact ho, h.bo.eV fun x hx => hg.block x (aD h.bo hx).2 fun e => h.ap x e.symm hx, fun x hx hx2 => ?_⟩
 have hx : some g = some x := hx
 injection hx with hx; subst hx
 rcases dw with e | e
 ·exact h.ap g e hx2
 ·have := (aD h.bo hx2).2; omega
theorem Dup.Vk {B : Nat} {W W' : World} {a b : Value} {A C : List ByteArray} {g cap k : Nat} {s : ByteArray} (h : Dup B W a b A C) (ho : az B 9 W' (.slice (some ⟨g, 0, none⟩) k cap) (C.map Value.string ++ [.string s])) (hg : W.grownBy W' b.ownBlock) (dw : b.ownBlock = some g ∨ W.heap.size ≤ g) : Dup B W' a (.slice (some ⟨g, 0, none⟩) k cap) A (C ++ [s]) := by
 refine ⟨h.ao.eV fun x hx => hg.block x (aD h.ao hx).2 fun e => h.ap x hx e.symm, by rw [List.map_append]; exact ho, fun x hx hx2 => ?_⟩
 have hx2 : some g = some x := hx2
 injection hx2 with hx2; subst hx2
 rcases dw with e | e
 ·exact h.ap g hx e
 ·have := (aD h.ao hx).2; omega
section
variable {w0 w9 : World} {names : List ByteArray} {Bt N : Nat}
set_option maxHeartbeats 2000000 in
theorem Oi (m : Nat) {mp : Option Addr} {mc : Nat} (h2 : 2 ≤ names.length) (h4 : names.length ≤ 4) (hB : w0.heap.size ≤ Bt)
  (hb : w9.cell? ⟨Bt, 0, none⟩ = some (.slice mp names.length mc)) (EK : au Any w0 (.slice mp names.length mc) names) (hN : 2 ^ (names.length - 1) - 1 ≤ N) :
  Ve Fence.wide m Tryz.prog 231 #[.pointer (some ⟨Bt, 0, none⟩)] (fun x : Dv => #[x.2.1, x.2.2]) (Vi names) (fun _ _ => False) (fun xs => xs.map (·.1) = List.range' 1 (2 ^ (names.length - 1) - 1)) N w0 w9 (fun b => b = Bt) := by
 intro l J W hW ZI ZJ hA hY hJ
 obtain ⟨Qa, ZK⟩ := ZI Bt rfl
 have wB := (World.cell?_of_block (a := ⟨Bt, 0, none⟩) ZK).trans hb
 obtain ⟨nb, no, rfl, hc0⟩ := bQ EK (k := 0) (by omega)
 obtain ⟨M, hM⟩ : ∃ M, M = 2 ^ (names.length - 1) := ⟨_, rfl⟩
 have LD : M ≤ 8 := by rw [hM]; exact Nat.pow_le_pow_right (n := 2) (by decide) (show names.length - 1 ≤ 3 by omega)
 have hM1 : 1 ≤ M := by rw [hM]; exact Nat.one_le_two_pow
 have Qb : wrap64 ((2 : Int) ^ (names.length - 1)) = (M : Int) := by
  have : (2 : Int) ^ (names.length - 1) = ((2 ^ (names.length - 1) : Nat) : Int) := by simp
  rw [this, ← hM]; unfold wrap64; omega
 have Ur : names.length ≤ mc := by
  obtain ⟨_, _, e, h, _⟩ := aA.open EK
  injection e with e1 e2 e3
  omega
 have kG : Hid (∀ i, i < names.length → ∀ W, Up w0 W → W.cell? ⟨nb, no + i, none⟩ = some (.string (gs names i))) := fun i hi W hW => hW.cell (aA.SE EK hi)
 rw [← hM] at hN
 have LF : Hid (J [] (fun b => b = Bt) W) := hJ
 have HY := aa hY
 have HA := aa hA
 have HW := aa hW
 have UH := aa wB
 have HL : Hid (Bt < W.heap.size) := Nat.lt_of_lt_of_le Qa ZJ
 have HM := aa hM
 have HN := aa hN
 have HB := aa hB
 have Vl : Hid (M ≤ 8) := LD
 clear hW ZI ZJ hA hY hJ ZK Qa EK hc0 hb hM hN hB
 refine callsIn_of_wp Tryz.func231 rfl trivial ?_ rfl
 simp only [Tryz.ntmps231, List.size_toArray, List.length_cons, List.length_nil, Nat.reduceAdd, Nat.reduceSub, Array.replicate_succ, Array.replicate_zero, List.push_toArray, List.append_toArray, List.nil_append, List.cons_append]
 gi_wp2
 gi_loopw [3, 4, 5, 6, 7] (fun i _ _ _ _ wr => ∃ (k : Nat) (ys : List Dv) (L' : Nat → Prop), 1 ≤ k ∧ k ≤ M ∧ i = .int .i64 k ∧ Hid (ys.map (·.1) = List.range' 1 (k - 1)) ∧ Hid (J ys L' wr) ∧ Hid (Below w0.heap.size w0 wr) ∧ Hid (∀ b, L' b → w0.heap.size ≤ b ∧ b < wr.heap.size) ∧ Hid (L' Bt) ∧ Hid (wr.cell? ⟨Bt, 0, none⟩ = some (.slice (some ⟨nb, no, none⟩) names.length mc))) (fun i _ _ _ _ _ => M - (intOf i).toNat)
 case atStart => exact ⟨1, [], _, Nat.le_refl _, hM1, rfl, rfl, LF.out, HW.out, fun b hb => by rw [hb]; exact ⟨HB.out, HL.out⟩, rfl, UH.out⟩
 case round =>
  obtain ⟨k, ys, L', hk1, hk, rfl, hys, ZL, LG, za, ZM, hcB⟩ := hrel
  obtain ⟨wo, rfl⟩ : ∃ wo : World, wo = wr := ⟨_, rfl⟩
  have hcb := hcB.out
  have hn0 := kG.out 0 (by omega) wo LG.out
  rw [Nat.add_zero] at hn0
  have i0 : (0 : Int) ≤ (k : Int) := by omega
  by_cases hlt : k < M
  ·have i1 : (k : Int) < (M : Int) := by omega
   have i2 : (k : Int) < 8 := by omega
   have i3 : 0 < names.length := by omega
   have i4 : (0 : Int) < (names.length : Int) := by omega
   have i5 : (1 : Int) ≤ (names.length : Int) := by omega
   have i6 : 1 ≤ names.length := by omega
   have i7 : ¬ mc = 1 := by omega
   have i8 : names.length ≤ mc := Ur
   have aS := Up.alloc wo (.cells #[.string (gs names 0)] 9)
   have ZN : Dup wo.heap.size (wo.alloc (.cells #[.string (gs names 0)] 9)) (.slice (some ⟨wo.heap.size, 0, none⟩) 1 1) (.slice none 0 0) [gs names 0] [] := ⟨EF wo _ _ _ (Nat.le_refl _), az.nil _ _ _, fun g _ e => by cases e⟩
   have Qc := aa ZN
   have bF := aa aS
   have hcb1 := aS.cell hcb
   clear ZN aS
   gi_wp2
   generalize wo.alloc (.cells #[.string (gs names 0)] 9) = w1 at *
   simp only [Qb]
   clear Qb
   gi_loopw [4, 5, 6, 7, 23] (fun a b _ _ i wr => ∃ j : Nat, j ≤ names.length - 1 ∧ i = .int .i64 j ∧ Hid (Dup wo.heap.size wr a b (gs names 0 :: aU (fun i => !k.testBit i) names.tail j) (aU (fun i => k.testBit i) names.tail j)) ∧ Hid (Up wo wr)) (fun _ _ _ _ i _ => names.length - 1 - (intOf i).toNat)
   case atStart => exact ⟨0, Nat.zero_le _, rfl, Qc.out, bF.out⟩
   case round =>
    obtain ⟨j, hj, rfl, hD, hU⟩ := hrel
    obtain ⟨wi, rfl⟩ : ∃ wi : World, wi = wr := ⟨_, rfl⟩
    have j0 : (0 : Int) ≤ (j : Int) := by omega
    by_cases hlj : j < names.length - 1
    ·have tj := kG.out (j + 1) (by omega) wi (LG.out.trans (hU.out.mono LG.out.size))
     rw [show no + (j + 1) = no + 1 + j by omega] at tj
     have j1 : (j : Int) < ((names.length - 1 : Nat) : Int) := by omega
     have j2 : (j : Int) < 4 := by omega
     have rP : bits BinOp.and IntKind.i64 ((k : Int) / 2 ^ j) 1 = if k.testBit j then 1 else 0 := by
      have e : (k : Int) / 2 ^ j = ((k / 2 ^ j : Nat) : Int) := by simp
      have : k / 2 ^ j ≤ k := Nat.div_le_self _ _
      rw [e, EJ _ (by omega), GQ]
     have gI := aa (gm (fun i => !k.testBit i) names.tail j)
     have bH := aa (gm (fun i => k.testBit i) names.tail j)
     have qx : Hid (names.tail.getD j default = gs names (j + 1)) := by
      unfold Hid gs
      cases names with
      | nil => simp at hlj
      | cons a l => rfl
     have nJ := aa hlj
     have uK : Hid (((gs names 0 :: aU (fun i => !k.testBit i) names.tail j).map Value.string).length ≤ 1000000 ∧ ((aU (fun i => k.testBit i) names.tail j).map Value.string).length ≤ 1000000) := by
      have a1 := kP (fun i => !k.testBit i) names.tail j
      have a2 := kP (fun i => k.testBit i) names.tail j
      unfold Hid
      rw [List.length_map, List.length_map, List.length_cons]
      omega
     have b5 : Hid (wo.heap.size ≤ wi.heap.size) := hU.out.size
     obtain ⟨ap, ac, rfl, -⟩ := hD.out.ao.form rfl
     obtain ⟨bp, bc, rfl, -⟩ := hD.out.bo.form rfl
     rw [qx.out] at gI bH
     clear hlj
     cases hb : k.testBit j
     ·rw [hb] at rP gI bH
      have rP : bits BinOp.and IntKind.i64 ((k : Int) / 2 ^ j) 1 = 0 := rP
      have gI : Hid (aU (fun i => !k.testBit i) names.tail (j + 1) = aU (fun i => !k.testBit i) names.tail j ++ [gs names (j + 1)]) := gI.out
      have bH : Hid (aU (fun i => k.testBit i) names.tail (j + 1) = aU (fun i => k.testBit i) names.tail j) := by unfold Hid; rw [bH.out]; simp
      clear hb
      gi_wp2_with (gi_at_builtin; refine nA wi rfl _ _ 22 rfl wo.heap.size 9 (.string ⟨#[]⟩) 16 Tryz.underlying22 Tryz.gy rfl (by decide) hD.out.ao rfl (.string (gs names (j + 1))) rfl rfl _ rfl uK.out.1 b5.out ?_; intro g8 iG w8 bZ cH fI; have EL := aa (hD.out.Vj bZ cH fI); have mW := aa (hD.out.ao.cQ cH b5.out); clear bZ cH fI)
      go_roundw
      case rel => exact ⟨j + 1, by have := nJ.out; omega, by go_num, by rw [gI.out, bH.out]; have q := EL.out; simp only [List.length_map, List.length_cons] at q; exact q, Below.trans (show Below wo.heap.size wo wi from hU.out) mW.out⟩
      case measure => have := nJ.out; simp [intOf]; omega
     ·rw [hb] at rP gI bH
      have rP : bits BinOp.and IntKind.i64 ((k : Int) / 2 ^ j) 1 = 1 := rP
      have gI : Hid (aU (fun i => !k.testBit i) names.tail (j + 1) = aU (fun i => !k.testBit i) names.tail j) := by unfold Hid; rw [gI.out]; simp
      have bH : Hid (aU (fun i => k.testBit i) names.tail (j + 1) = aU (fun i => k.testBit i) names.tail j ++ [gs names (j + 1)]) := bH.out
      clear hb
      gi_wp2_with (gi_at_builtin; refine nA wi rfl _ _ 22 rfl wo.heap.size 9 (.string ⟨#[]⟩) 16 Tryz.underlying22 Tryz.gy rfl (by decide) hD.out.bo rfl (.string (gs names (j + 1))) rfl rfl _ rfl uK.out.2 b5.out ?_; intro g8 iG w8 bZ cH fI; have EL := aa (hD.out.Vk bZ cH fI); have mW := aa (hD.out.bo.cQ cH b5.out); clear bZ cH fI)
      go_roundw
      case rel => exact ⟨j + 1, by have := nJ.out; omega, by go_num, by rw [gI.out, bH.out]; have q := EL.out; simp only [List.length_map, List.length_cons] at q; exact q, Below.trans (show Below wo.heap.size wo wi from hU.out) mW.out⟩
      case measure => have := nJ.out; simp [intOf]; omega
    ·obtain rfl : j = names.length - 1 := by omega
     obtain ⟨ap, ac, hae, -⟩ := hD.out.ao.form rfl
     obtain ⟨bp, bc, yB, -⟩ := hD.out.bo.form rfl
     subst hae
     subst yB
     obtain ⟨va, Vm⟩ : ∃ va, va = Value.slice ap ((gs names 0 :: aU (fun i => !k.testBit i) names.tail (names.length - 1)).map Value.string).length ac := ⟨_, rfl⟩
     obtain ⟨vb, hvb⟩ : ∃ vb, vb = Value.slice bp ((aU (fun i => k.testBit i) names.tail (names.length - 1)).map Value.string).length bc := ⟨_, rfl⟩
     rw [← Vm, ← hvb] at hD
     have ZO : J ys (fun b => L' b ∨ (wo.heap.size ≤ b ∧ b < wi.heap.size)) wi := HA.out ys L' _ wo wi ZL.out ⟨hU.out.os, hU.out.tape, hU.out.output, hU.out.size, fun b hb _ => Below.block hU.out b hb, fun b hb => hb.imp (fun e => ⟨e, (za.out b e).2⟩) id⟩
     have LA : Vi names (k, va, vb) (fun b => L' b ∨ (wo.heap.size ≤ b ∧ b < wi.heap.size)) wi := ⟨⟨hk1, by rw [← HM.out]; exact hlt⟩, hD.out.ao.strs.sub fun b hb hl => .inr ⟨hb, hl⟩, hD.out.bo.strs.sub fun b hb hl => .inr ⟨hb, hl⟩⟩
     have Vn := congrArg List.length hys.out
     rw [List.length_map, List.length_range'] at Vn
     have hwi := hU.out.size
     have ZP := LG.out.size
     obtain ⟨fn, tmps, assign, body, hy, hR⟩ := HY.out ys (k, va, vb) _ wi ZO LA (LG.out.trans (hU.out.mono ZP)) (fun b hb => by
      rcases hb with hb | hb
      ·have := za.out b hb; omega
      ·omega) (by have := HN.out; omega)
     have HYS : Hid ((ys ++ [(k, va, vb)]).map (·.1) = List.range' 1 k) := by
      unfold Hid
      rw [List.map_append, hys.out]
      have : k = (k - 1) + 1 := by omega
      conv => rhs; rw [this, List.range'_concat]
      simp; omega
     have uj : Hid (∀ b, (L' b ∨ (wo.heap.size ≤ b ∧ b < wi.heap.size)) → w0.heap.size ≤ b ∧ b < wi.heap.size) := fun b hb => by
      rcases hb with hb | hb
      ·have := za.out b hb; omega
      ·omega
     have hcb2 := hU.out.cell hcb
     have HCB2 := aa hcb2
     have aQ := aa hlt
     simp only at hy
     clear ZO LA Vn hD hwi ZP Qc
     rw [← Vm, ← hvb]
     clear Vm hvb
     gi_wp2
     first | refine ⟨trivial, fun h => (by cases h), ?_⟩ | refine ⟨fun h => (by cases h), ?_⟩
     refine hR.mono ?_
     rintro e W7 ⟨rfl, ZQ, mW, ZR, ZT⟩
     have H8 := aa (⟨ZQ, mW, ZR, ZT⟩ : _ ∧ _ ∧ _ ∧ _)
     clear ZQ mW ZR ZT hR
     gi_wp2
     go_roundw
     case rel => exact ⟨k + 1, ys ++ [(k, va, vb)], _, by omega, aQ.out, by go_num, HYS.out, H8.out.1, H8.out.2.1, fun b hb => by have h1 := uj.out b hb; have h2 := H8.out.2.2.1; omega, .inl ZM.out, (World.cell?_of_block (a := ⟨Bt, 0, none⟩) (H8.out.2.2.2 Bt (.inl (.inl ZM.out)))).trans HCB2.out⟩
     case measure => have := aQ.out; simp [intOf]; omega
  ·obtain rfl : k = M := by omega
   gi_wp2
   go_end0
   exact ⟨⟨_, rfl⟩, ys, L', by rw [hys.out, HM.out], ZL.out⟩
end
end
section
def c4 (a b : List Int) (i j : Bool) : Nat → Nat
 | 0 => 0
 | n + 1 => c4 a b i j n + if (a.contains (n : Int) == i && b.contains (n : Int) == j) then 1 else 0
end
section
open Go.RowKit Go.Deep
end
section
end
section
def lQ (t : av) (names : List ByteArray) (st : List Int) (n : Nat) : List Int := (List.range n).map fun j => gi st (gJ names (gs t.ns (gi (aC t.ns) j).toNat)).toNat
theorem pM (t : av) (names : List ByteArray) (st : List Int) (n : Nat) : (lQ t names st n).length = n := by simp [lQ]
theorem Rh {t : av} {names : List ByteArray} {st : List Int} {n j : Nat} (h : j < n) : gi (lQ t names st n) j = gi st (gJ names (gs t.ns (gi (aC t.ns) j).toNat)).toNat := by simp [lQ, gi, h]
theorem LH (t : av) (names : List ByteArray) (st : List Int) (n : Nat) : lQ t names st (n + 1) = lQ t names st n ++ [gi st (gJ names (gs t.ns (gi (aC t.ns) n).toNat)).toNat] := by simp [lQ, List.range_succ]
section
variable {t : av} {names : List ByteArray} {st : List Int}
theorem LI (h : EC t names) {v : Nat} (hv : v < t.ps.length) (h0 : (gs t.ns v).size ≠ 0) : ∃ b : Nat, b < names.length ∧ gs names b = gs t.ns v ∧ gJ names (gs t.ns v) = (b : Int) := by
 obtain ⟨b, hb, e⟩ := h.has v hv h0
 exact ⟨b, hb, e, by rw [← e]; exact Xz h.nd hb⟩
end
end
section
section
variable {F : aL} {n : Nat} {rk : Nat → Nat} {P : Nat → Bool} {m : Nat} {cost : Nat → Nat → Int} {P8 : ByteArray → Int}
end
section
variable {t : av} {leaf m : Nat} {cost : Nat → Nat → Int} {P8 : ByteArray → Int}
end
section
variable {t : av} {st : List Int} {cs : List (List Int)} {P8 : ByteArray → Int}
end
section
variable {t : av} {st : List Int} {cs : List (List Int)} {leaf : Nat}
theorem FV {ns : List ByteArray} {j : Nat} (hj : j < ns.length) (h0 : (gs ns j).size ≠ 0) : 0 ≤ fq ns j := by
 have hm : (j : Int) ∈ aC ns := qJ.2 ⟨j, rfl, hj, h0⟩
 obtain ⟨i, hi, e⟩ := LC hm
 unfold fq
 have := jR (fun i => decide ((j : Int) = gi (aC ns) i)) (aC ns).length
 rw [qY hi (decide_eq_true e.symm)] at this
 exact of_decide_eq_true this
end
end
section
open Go.RowKit Go.Deep
end
section
open Go.RowKit Go.Deep Go.Sort
end
section
open Go.RowKit Go.Deep
section
variable {tb r o n : Nat} {W X : World} {P N P' N' ov nv nv' : Value} {own : List (List Int)} {nds : List Int}
end
end
section
end
section
open Go.RowKit Go.Deep
def GR (w : World) (t : av) (st : List Int) (cs : List (List Int)) (e : Ending) (w' : World) : Prop :=
 ∃ tb Vo Vp rq rc, e = .returned (.slice (some ⟨tb, Vo, none⟩) t.ps.length Vp) ∧ w'.cell? ⟨tb, Vo, none⟩ = some (.slice rq cs.length rc) ∧ ax Any w' (.slice rq cs.length rc) (aN t st cs 0) ∧ Up w w'
theorem tb1 {w w' : World} {t : av} {st : List Int} {cs : List (List Int)} {e : Ending} (hv : Valid t st cs) (h : yt w (k7 t st cs) e w') : GR w t st cs e w' := by
 obtain ⟨hb, v, rfl, hr⟩ := h
 have hp := (aI hv.tree).1
 obtain ⟨p, cap, rfl, _, H⟩ := eD hr
 obtain ⟨b, off, q, c, rfl, hc, hi⟩ := H 0 (by rw [CV]; exact hp)
 rw [QJ _ _ _ hp] at hc hi
 rw [eR] at hc hi
 rw [CV]
 exact ⟨b, off, cap, q, c, rfl, by rw [Nat.add_zero] at hc; exact hc, hi, hb⟩
end
end Go.Proofs.YteegefnjnikngaaGreat
namespace Go.Proofs
open Go.Shelf
def Tryz.lays212_ren : Go.Shelf.Ren := ⟨fun | 212 => 283 | 263 => 300 | 264 => 301 | n => n, fun | 46 => 162 | 51 => 201 | 53 => 203 | 146 => 289 | 148 => 291 | n => n, fun | n => n⟩
theorem Tryz.lays212 : Go.Proofs.Lays.n212 Tryz.prog Tryz.lays212_ren := {
 mixed := by kernel_rfl
 f212 := Tryz.func283.trans (congrArg some (by kernel_rfl))
 f263 := Tryz.func300.trans (congrArg some (by kernel_rfl))
 f264 := Tryz.func301.trans (congrArg some (by kernel_rfl))
 t46 := Tryz.underlying162
 a46 := Tryz.isAgg162
 z46 := Tryz.sizeOf162
 v46 := Tryz.zeroValue162
 t51 := Tryz.underlying201
 a51 := Tryz.isAgg201
 z51 := Tryz.sizeOf201
 v51 := Tryz.zeroValue201
 t53 := Tryz.underlying203
 a53 := Tryz.isAgg203
 z53 := Tryz.sizeOf203
 v53 := Tryz.zeroValue203
 t146 := Tryz.underlying289
 a146 := Tryz.isAgg289
 z146 := Tryz.sizeOf289
 v146 := Tryz.zeroValue289
 t148 := Tryz.underlying291
 a148 := Tryz.isAgg291
 z148 := Tryz.sizeOf291
 v148 := Tryz.zeroValue291 }
theorem Tryz.bits_Mul (x y : Nat) (hx : x < 18446744073709551616) (hy : y < 18446744073709551616) (w : World) :
  Calls Tryz.prog 283 #[.int .u64 x, .int .u64 y] w fun e w' => e = .returned (.tuple #[.int .u64 ((x * y / 18446744073709551616 : Nat) : Int), .int .u64 ((x * y % 18446744073709551616 : Nat) : Int)]) ∧ w' = w := Any.bits_Mul Tryz.lays212 x y hx hy w
end Go.Proofs
