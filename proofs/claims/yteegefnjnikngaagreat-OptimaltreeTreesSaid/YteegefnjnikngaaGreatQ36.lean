/- Plain: binary trees as rose trees, and their list, sorted by text. Maps whose keys are .. -/
import Derived.Test.YteegefnjnikngaaGreatQ35
import Derived.Test.YteegefnjnikngaaGreatQ31
import Derived.Test.YteegefnjnikngaaGreatQ34
import Derived.Test.YteegefnjnikngaaGreatQ8
import Derived.Test.YteegefnjnikngaaGreatQ7
import Derived.Test.YteegefnjnikngaaGreatQ1
import Derived.Test.YteegefnjnikngaaGreatQ14
import Derived.Test.YteegefnjnikngaaGreatQ4
import Derived.Test.YteegefnjnikngaaGreatQ26
import Derived.OwnWalkIn
import Derived.Deep.AppendLies
import Derived.Test.YteegefnjnikngaaGreatQ3
import Derived.Test.YteegefnjnikngaaGreatQ6
import Derived.Test.YteegefnjnikngaaGreatQ18
import Derived.Test.YteegefnjnikngaaGreatQ19
import Derived.Test.YteegefnjnikngaaGreatQ2
import Derived.Test.YteegefnjnikngaaGreatQ22
import Derived.Test.YteegefnjnikngaaGreatQ17
set_option maxRecDepth 100000
namespace Go.Proofs.YteegefnjnikngaaGreat
section
def btR : BT ByteArray → RT
 | .leaf x => .node x []
 | .node a b => .node ByteArray.empty [btR a, btR b]
theorem vS : ∀ r : BT ByteArray, aG (btR r) + 1 = 2 * r.fc.length
 | .leaf x => by simp [btR, BT.fc, aG, sizeRs]
 | .node a b => by
  have h1 := vS a
  have h2 := vS b
  simp only [btR, BT.fc, aG, sizeRs, List.length_append]
  omega
theorem zZ : ∀ r : BT ByteArray, (∀ x ∈ r.fc, x.size ≠ 0) → ey (btR r) = r.fc
 | .leaf x, h => IZ (h x (by simp [BT.fc]))
 | .node a b, h => by
  rw [btR, sO rfl, List.flatMap_cons, List.flatMap_cons, List.flatMap_nil, List.append_nil, BT.fc]
  rw [zZ a fun x hx => h x (by rw [BT.fc]; exact List.mem_append_left _ hx), zZ b fun x hx => h x (by rw [BT.fc]; exact List.mem_append_right _ hx)]
theorem z7 : ∀ r : BT ByteArray, (∀ x ∈ r.fc, aP x.data.toList = true) → ∀ s ∈ subR (btR r), DV s
 | .leaf x, h, s, hs => by
  rw [btR, subR, subRs, List.mem_singleton] at hs
  subst hs
  exact ⟨fun e => absurd rfl e, fun _ => h x (by simp [BT.fc]), by simp [RT.kids]⟩
 | .node a b, h, s, hs => by
  rw [btR, subR, subRs, subRs, subRs, List.append_nil, List.mem_cons, List.mem_append] at hs
  rcases hs with rfl | hs | hs
  ·exact ⟨fun _ => rfl, (fun e => by cases e), by simp [RT.kids]⟩
  ·exact z7 a (fun x hx => h x (by rw [BT.fc]; exact List.mem_append_left _ hx)) s hs
  ·exact z7 b (fun x hx => h x (by rw [BT.fc]; exact List.mem_append_right _ hx)) s hs
structure xQ (r : BT ByteArray) : Prop where
 nd : r.fc.Nodup
 nm : ∀ x ∈ r.fc, aP x.data.toList = true
theorem xQ.sz {r : BT ByteArray} (h : xQ r) : ∀ x ∈ r.fc, x.size ≠ 0 := fun x hx => sA (h.nm x hx)
theorem xQ.leaf {r : BT ByteArray} (h : xQ r) : ey (btR r) = r.fc := zZ r h.sz
theorem xQ.P3 {r : BT ByteArray} (h : xQ r) : PJ (btR r) := ⟨by rw [h.leaf]; exact h.nd, z7 r h.nm⟩
theorem P5 (a b : BT ByteArray) : txR (btR (.node a b)) = 40 :: (txR (btR a) ++ (44 :: txR (btR b)) ++ [41]) := by
 rw [btR, txR, txRs, txRs, List.append_nil]
def bG (r : RT) : List UInt8 := txR r ++ [59]
def insT (a : RT) : List RT → List RT
 | [] => [a]
 | b :: l => if Lib.compareBytes (bG b) (bG a) ≤ 0 then b :: insT a l else a :: b :: l
def Jc : List RT → List RT
 | [] => []
 | a :: l => insT a (Jc l)
theorem vg (a : RT) : ∀ l, (insT a l).Perm (a :: l)
 | [] => List.Perm.refl _
 | b :: l => by
  rw [insT]
  split
  ·exact ((vg a l).cons b).trans (List.Perm.swap a b l)
  ·exact List.Perm.refl _
theorem js : ∀ l, (Jc l).Perm l
 | [] => List.Perm.refl _
 | a :: l => (vg a _).trans ((js l).cons a)
def dX (a b : RT) : Prop := Lib.compareBytes (bG a) (bG b) ≤ 0
theorem dX.trans {a b c : RT} (h1 : dX a b) (h2 : dX b c) : dX a c := by
 unfold dX at *
 rw [GN] at *
 exact Std.le_trans h1 h2
theorem dX.total {a b : RT} (h : ¬ dX a b) : dX b a := by
 unfold dX at *
 rw [kj]; omega
theorem wV (a : RT) : ∀ l : List RT, l.Pairwise dX → (insT a l).Pairwise dX
 | [], _ => by simp [insT]
 | b :: l, h => by
  rw [insT]
  obtain ⟨h1, h2⟩ := List.pairwise_cons.1 h
  split
  ·rename_i hb
   refine List.pairwise_cons.2 ⟨fun c hc => ?_, wV a l h2⟩
   rcases List.mem_cons.1 ((vg a l).mem_iff.1 hc) with rfl | hc
   ·exact hb
   ·exact h1 c hc
  ·rename_i hb
   have hab : dX a b := dX.total hb
   refine List.pairwise_cons.2 ⟨fun c hc => ?_, h⟩
   rcases List.mem_cons.1 hc with rfl | hc
   ·exact hab
   ·exact hab.trans (h1 c hc)
theorem qU : ∀ l : List RT, (Jc l).Pairwise dX
 | [] => List.Pairwise.nil
 | a :: l => wV a _ (qU l)
theorem dX.anti {a b : RT} (ha : jr a) (hb : jr b) (h1 : dX a b) (h2 : dX b a) : a = b := by
 unfold dX at *
 have h3 := kj (bG a) (bG b)
 have h4 : bG a = bG b := l5 (by omega)
 exact Li ha hb (List.append_cancel_right h4)
theorem sY : ∀ {l m : List RT}, l.Perm m → l.Pairwise dX → m.Pairwise dX → (∀ r ∈ l, jr r) → l = m
 | [], m, h, _, _, _ => (List.nil_perm.1 h).symm
 | a :: l, [], h, _, _, _ => absurd (List.perm_nil.1 h) (by simp)
 | a :: l, b :: m, h, h1, h2, ho => by
  obtain ⟨a1, a2⟩ := List.pairwise_cons.1 h1
  obtain ⟨b1, b2⟩ := List.pairwise_cons.1 h2
  have e : a = b := by
   have hb : b ∈ a :: l := h.mem_iff.2 (by simp)
   have ha : a ∈ b :: m := h.mem_iff.1 (by simp)
   rcases List.mem_cons.1 hb with hb' | hb'
   ·exact hb'.symm
   rcases List.mem_cons.1 ha with ha' | ha'
   ·exact ha'
   exact dX.anti (ho a (by simp)) (ho b hb) (a1 b hb') (b1 a ha')
  subst e
  rw [sY ((List.perm_cons a).1 h) a2 b2 fun r hr => ho r (by simp [hr])]
def uB (names : List ByteArray) (r : BT ByteArray) : BT ByteArray := .node (.leaf (gs names 0)) r
def uR (names : List ByteArray) (r : BT ByteArray) : RT := sortR (btR (uB names r))
def aW (names : List ByteArray) : List RT := Jc ((rt names.length names.tail).map (uR names))
def allT (names : List ByteArray) : List av := (aW names).map flat
structure fQ (names : List ByteArray) : Prop where
 lo : 2 ≤ names.length
 hi : names.length ≤ 5
 nm : ∀ x ∈ names, aP x.data.toList = true
 nd : names.Nodup
theorem fQ.cons {names : List ByteArray} (h : fQ names) : gs names 0 :: names.tail = names := by
 have := h.lo
 cases names with
 | nil => simp at this
 | cons a l => rfl
theorem rO {names : List ByteArray} (h : fQ names) {r : BT ByteArray} (hr : r.fc.Perm names.tail) : (uB names r).fc.Perm names := by
 have h1 : (uB names r).fc = gs names 0 :: r.fc := rfl
 rw [h1]
 exact (hr.cons _).trans (List.Perm.of_eq h.cons)
theorem P6 {names : List ByteArray} (h : fQ names) {r : BT ByteArray} (hr : r.fc.Perm names.tail) : xQ (uB names r) :=
 ⟨(rO h hr).symm.nodup h.nd, fun x hx => h.nm x ((rO h hr).mem_iff.1 hx)⟩
theorem EG {names : List ByteArray} {q : RT} : q ∈ aW names ↔ ∃ r ∈ rt names.length names.tail, uR names r = q := by
 unfold aW
 rw [(js _).mem_iff, List.mem_map]
theorem Og (names : List ByteArray) : (aW names).length = (rt names.length names.tail).length := by
 unfold aW
 rw [(js _).length_eq, List.length_map]
theorem eC {names : List ByteArray} (h : fQ names) {q : RT} (hq : q ∈ aW names) : PJ q ∧ (ey q).Perm names ∧ aG q + 1 = 2 * names.length ∧ sortR q = q ∧ aB (flat q) = 0 ∧ nu (flat q) = flat q := by
 obtain ⟨r, hr, rfl⟩ := EG.1 hq
 have hl := ve _ _ _ hr
 have ho := P6 h hl
 have hs := vS (uB names r)
 have hpl := (rO h hl).length_eq
 have hhi := h.hi
 have hz : aG (uR names r) + 1 = 2 * names.length := by unfold uR; rw [Iy]; omega
 have hg : ja (uR names r) := ho.P3.good.sort
 have h2 : sortR (uR names r) = uR names r := sF _
 have ht := uE hg (by omega)
 refine ⟨⟨(nS _).symm.nodup ho.P3.nd, fun s hs => ?_⟩, ?_, hz, h2, ht, by rw [uD ht, sw, h2]⟩
 ·obtain ⟨u, hu, rfl⟩ := List.mem_map.1 ((jm _).mem_iff.1 hs)
  obtain ⟨p1, p2, p3⟩ := ho.P3.pt u hu
  rw [DV, nR, oV, (jW _).length_eq, List.length_map]
  exact ⟨fun hk => p1 fun e => hk (lF.2 e), fun hk => p2 (lF.1 hk), p3⟩
 ·refine (nS _).trans ?_
  rw [ho.leaf]
  exact rO h hl
theorem sZ {names : List ByteArray} (h : fQ names) : (aW names).length = if names.length = 2 then 1 else if names.length = 3 then 1 else if names.length = 4 then 3 else 15 := by
 rw [Og]
 have hlo := h.lo
 have hhi := h.hi
 have e : names.tail = ((List.range' 1 (names.length - 1)).map fun i => gs names i) := by
  apply List.ext_getElem
  ·simp
  ·intro i h1 h2
   simp at h1
   simp [gs]
   rw [List.getElem?_eq_getElem (by omega)]
   simp [Nat.add_comm]
 rw [e, y8, List.length_map]
 generalize names.length = n at *
 obtain rfl | rfl | rfl | rfl : n = 2 ∨ n = 3 ∨ n = 4 ∨ n = 5 := by omega
 ·decide +kernel
 ·decide +kernel
 ·decide +kernel
 ·decide +kernel
end
section
open Go.RowKit Go.Deep
section
variable {P : Program} {w : World}
end
end
section
open Go.RowKit Go.Shelf Go.Deep Go.Sort
section
variable {w0 : World} {t : av} {names : List ByteArray} {l Bt Be Bn Bq N : Nat} {J : List El → (Nat → Prop) → World → Prop}
end
end
section
open Go.RowKit Go.Deep
end
section
open Go.RowKit Go.Shelf Go.Deep
end
section
end
section
open Go.RowKit Go.Deep
end
section
section
variable {names : List ByteArray} {l : List (List Int)}
end
end
section
def EH (a b : Nat) : Int := if a = b then 0 else 1
def jG (n a : Nat) : List Int := (List.range n).map (EH a)
def bM (n : Nat) : List (List Int) := (List.range n).map (jG n)
theorem qV (n a : Nat) : (jG n a).length = n := by simp [jG]
theorem kQ (n : Nat) : (bM n).length = n := by simp [bM]
theorem Jd {n a b : Nat} (h : b < n) : gi (jG n a) b = EH a b := by simp [gi, jG, h]
theorem Oh {n a : Nat} (h : a < n) : gl (bM n) a = jG n a := by simp [gl, bM, h]
end
section
open Go.RowKit Go.Deep
end
section
open Go.RowKit Go.Deep Go.Shelf
theorem aA.grown {S : Nat → Prop} {X Y : World} {v : Value} {n : Nat} {f : Nat → Value} {row : Option Nat} (h : aA S X v n f) (hg : X.grownBy Y row) (hr : ∀ r, row = some r → ∃ o, X.heap[r]? = some o ∧ o.isCells = false) : aA S Y v n f := by
 obtain ⟨p, cap, rfl, hn, h⟩ := h
 refine ⟨p, cap, rfl, hn, ?_⟩
 by_cases h0 : n = 0
 ·exact .inl h0
 ·rcases h with h | ⟨g, off, rfl, hS, hc⟩
  ·exact absurd h h0
  ·refine .inr ⟨g, off, rfl, hS, fun k hk => ?_⟩
   have h1 := hc k hk
   have hl := World.block_lt_of_cell? X _ h1
   refine (World.cell?_of_block (a := ⟨g, off + k, none⟩) (hg.block g hl fun e => ?_)).trans h1
   obtain ⟨o, h2, h3⟩ := hr g e.symm
   simp only [World.cell?] at h1
   rw [h2] at h1
   cases o <;> simp [Obj.isCells] at h3 <;> simp at h1
section
variable {w6 : World} {t : av} {names : List ByteArray}
end
end
section
open Go.RowKit Go.Shelf Go.Deep
end
section
open Go.RowKit Go.Deep
end
section
open Go.RowKit Go.Deep
end
section
def part (t : av) (st : List Int) (cs : List (List Int)) (k r s : Nat) : Int := dM t st r s + bw (fun c => if k ≤ c ∧ r < c ∧ gi t.ps c = r then jg t st cs s c else 0) t.ps.length
section
variable {t : av} {st : List Int} {cs : List (List Int)}
end
end
section
theorem gD {α β : Type} {f g : α → List β} : ∀ {l : List α}, (∀ a ∈ l, f a = g a) → l.flatMap f = l.flatMap g
 | [], _ => rfl
 | a :: l, h => by
  rw [List.flatMap_cons, List.flatMap_cons, h a (by simp), gD fun b hb => h b (by simp [hb])]
theorem BQ {α : Type} [Inhabited α] (L : List α) {bits : Nat} (h1 : 1 ≤ bits) (h2 : bits < 2 ^ L.length) : 1 ≤ (aU (fun i => bits.testBit i) L L.length).length ∧ (aU (fun i => bits.testBit i) L L.length).length + (aU (fun i => !bits.testBit i) L L.length).length = L.length := by
 have h3 := (qT (fun i => bits.testBit i) L (n := L.length) (Nat.le_refl _)).length_eq
 rw [List.length_append, List.length_take] at h3
 refine ⟨?_, by omega⟩
 rcases Nat.eq_zero_or_pos (aU (fun i => bits.testBit i) L L.length).length with e | e
 ·exfalso
  have h5 : aU (fun i => bits.testBit i) L L.length = [] := List.eq_nil_of_length_eq_zero e
  have hz : bits = 0 := Nat.eq_of_testBit_eq fun i => by
   rw [Nat.zero_testBit]
   by_cases hi : i < L.length
   ·cases hb : bits.testBit i
    ·rfl
    ·have : L.getD i default ∈ aU (fun i => bits.testBit i) L L.length := BP.2 ⟨i, hi, hb, rfl⟩
     rw [h5] at this; cases this
   ·exact Nat.testBit_lt_two_pow (Nat.lt_of_lt_of_le h2 (Nat.pow_le_pow_right (by decide) (by omega)))
  omega
 ·exact e
theorem mC {α : Type} [Inhabited α] : ∀ (d e : Nat) (L : List α), L.length ≤ d → L.length ≤ e → rt d L = rt e L
 | 0, e, L, h, _ => by
  have : L = [] := List.eq_nil_of_length_eq_zero (by omega)
  subst this
  cases e <;> rfl
 | d + 1, 0, L, _, h => by
  have : L = [] := List.eq_nil_of_length_eq_zero (by omega)
  subst this; rfl
 | _ + 1, _ + 1, [], _, _ => rfl
 | _ + 1, _ + 1, [x], _, _ => rfl
 | d + 1, e + 1, x :: y :: L, h1, h2 => by
  rw [rt, rt]
  refine gD fun bits hb => ?_
  rw [List.mem_range'_1] at hb
  obtain ⟨p1, p2⟩ := BQ (y :: L) (bits := bits) hb.1 (by omega)
  have hl : (y :: L).length = L.length + 1 := rfl
  rw [List.length_cons, hl] at h1 h2
  rw [mC d e (x :: _) (by rw [List.length_cons]; omega) (by rw [List.length_cons]; omega), mC d e (aU _ _ _) (by omega) (by omega)]
def dA (L : List ByteArray) (bits : Nat) : List ByteArray := gs L 0 :: aU (fun i => !bits.testBit i) L.tail (L.length - 1)
def dB (L : List ByteArray) (bits : Nat) : List ByteArray := aU (fun i => bits.testBit i) L.tail (L.length - 1)
def iO (L : List ByteArray) : List (BT ByteArray) := rt L.length L
def gK (r : BT ByteArray) : ByteArray := ⟨(txR (btR r)).toArray⟩
def bg (L : List ByteArray) : List ByteArray := (iO L).map gK
def pairT (s t : ByteArray) : ByteArray := ⟨#[40]⟩ ++ s ++ ⟨#[44]⟩ ++ t ++ ⟨#[41]⟩
def y9 (L : List ByteArray) (bits : Nat) : List ByteArray := (bg (dA L bits)).flatMap fun s => (bg (dB L bits)).map fun t => pairT s t
theorem xR (x : ByteArray) : gK (.leaf x) = x := by
 unfold gK
 rw [btR, sX]
theorem xS (a b : BT ByteArray) : gK (.node a b) = pairT (gK a) (gK b) := by
 unfold pairT
 apply dH
 unfold gK
 rw [P5]
 simp
theorem Je {L : List ByteArray} (h : 2 ≤ L.length) {bits : Nat} (h1 : 1 ≤ bits) (h2 : bits < 2 ^ (L.length - 1)) : (dA L bits).length < L.length ∧ 1 ≤ (dA L bits).length ∧ (dB L bits).length < L.length ∧ 1 ≤ (dB L bits).length := by
 have hl : L.tail.length = L.length - 1 := by simp
 obtain ⟨p1, p2⟩ := BQ L.tail (bits := bits) h1 (by rw [hl]; exact h2)
 unfold dA dB
 rw [List.length_cons, ← hl]
 omega
theorem Rc (x : ByteArray) : bg [x] = [x] := by
 unfold bg iO
 rw [List.length_singleton, rt, List.map_singleton, xR]
theorem Vg {L : List ByteArray} (h : 2 ≤ L.length) : bg L = (List.range' 1 (2 ^ (L.length - 1) - 1)).flatMap (y9 L) := by
 obtain ⟨x, y, L, rfl⟩ : ∃ x y L', L = x :: y :: L' := by
  cases L with
  | nil => simp at h
  | cons x L =>
   cases L with
   | nil => simp at h
   | cons y L => exact ⟨x, y, L, rfl⟩
 unfold bg iO
 have e1 : (x :: y :: L).length = (y :: L).length + 1 := rfl
 rw [e1, rt, List.map_flatMap, Nat.add_sub_cancel]
 refine gD fun bits hb => ?_
 rw [List.mem_range'_1] at hb
 have hd := Je (L := x :: y :: L) h (bits := bits) hb.1 (by have : (x :: y :: L).length - 1 = (y :: L).length := rfl; rw [this]; omega)
 unfold y9 bg
 rw [List.map_flatMap, List.flatMap_map]
 have ea : dA (x :: y :: L) bits = x :: aU (fun i => !bits.testBit i) (y :: L) (y :: L).length := rfl
 have eb : dB (x :: y :: L) bits = aU (fun i => bits.testBit i) (y :: L) (y :: L).length := rfl
 rw [← ea, ← eb]
 have f1 : rt (y :: L).length (dA (x :: y :: L) bits) = iO (dA (x :: y :: L) bits) := mC _ _ _ (by simp only [List.length_cons] at hd ⊢; omega) (Nat.le_refl _)
 have f2 : rt (y :: L).length (dB (x :: y :: L) bits) = iO (dB (x :: y :: L) bits) := mC _ _ _ (by simp only [List.length_cons] at hd ⊢; omega) (Nat.le_refl _)
 rw [f1, f2]
 refine gD fun a _ => ?_
 rw [List.map_map, List.map_map]
 refine List.map_congr_left fun b _ => ?_
 exact xS a b
theorem EI {L : List ByteArray} : ∀ {n : Nat}, L.length = n → n ≤ 4 → (iO L).length = if n = 0 then 0 else if n = 1 then 1 else if n = 2 then 1 else if n = 3 then 3 else 15 := by
 intro n hn h4
 have e : L = ((List.range n).map fun i => gs L i) := by
  apply List.ext_getElem
  ·simp [hn]
  ·intro i h1 h2
   simp [gs, h1]
 unfold iO
 rw [hn]
 have e2 : rt n L = (rt n (List.range n)).map (BT.map fun i => gs L i) := by
  rw [← y8]
  exact congrArg (rt n) e
 rw [e2, List.length_map]
 obtain rfl | rfl | rfl | rfl | rfl : n = 0 ∨ n = 1 ∨ n = 2 ∨ n = 3 ∨ n = 4 := by omega
 ·decide +kernel
 ·decide +kernel
 ·decide +kernel
 ·decide +kernel
 ·decide +kernel
theorem oh {L : List ByteArray} (h : L.length ≤ 4) : (bg L).length ≤ 15 := by
 unfold bg
 rw [List.length_map, EI rfl h]
 split <;> (try split) <;> (try split) <;> (try split) <;> omega
theorem Re {L : List ByteArray} (h : L.length ≤ 4) (h1 : 1 ≤ L.length) : 1 ≤ (bg L).length := by
 unfold bg
 rw [List.length_map, EI rfl h]
 split <;> (try split) <;> (try split) <;> (try split) <;> omega
theorem kB {α β : Type} {f : α → List β} {K : Nat} : ∀ l : List α, (∀ a ∈ l, (f a).length ≤ K) → (l.flatMap f).length ≤ l.length * K
 | [], _ => by simp
 | a :: l, h => by
  rw [List.flatMap_cons, List.length_append, List.length_cons, Nat.succ_mul]
  have h1 := h a (by simp)
  have h2 := kB l fun b hb => h b (by simp [hb])
  omega
theorem Rf {L : List ByteArray} {bits : Nat} (ha : (dA L bits).length ≤ 4) (hb : (dB L bits).length ≤ 4) : (y9 L bits).length ≤ 225 := by
 unfold y9
 have h1 := oh ha
 have h2 := oh hb
 have h3 := kB (f := fun s => (bg (dB L bits)).map fun t => pairT s t) (K := 15) (bg (dA L bits)) fun s _ => by rw [List.length_map]; exact h2
 have h4 : (bg (dA L bits)).length * 15 ≤ 15 * 15 := Nat.mul_le_mul_right _ h1
 omega
theorem Jf {L : List ByteArray} {bits : Nat} (h : 1 ≤ L.length) : (∀ x ∈ dA L bits, x ∈ L) ∧ ∀ x ∈ dB L bits, x ∈ L := by
 have hp : ∀ p : Nat → Bool, ∀ x ∈ aU p L.tail (L.length - 1), x ∈ L := fun p x hx => by
  obtain ⟨i, hi, _, rfl⟩ := BP.1 hx
  have hl : i < L.tail.length := by simp; omega
  rw [List.getD_eq_getElem?_getD, List.getElem?_eq_getElem hl]
  exact List.mem_of_mem_tail (List.getElem_mem hl)
 refine ⟨fun x hx => ?_, hp _⟩
 rcases List.mem_cons.1 hx with rfl | hx
 ·cases L with
  | nil => simp at h
  | cons a l => simp [gs]
 ·exact hp _ x hx
theorem Jg (s t : ByteArray) : (pairT s t).size = s.size + t.size + 3 := by
 unfold pairT
 simp only [ByteArray.size_append]
 show 1 + s.size + 1 + t.size + 1 = _
 omega
theorem s5 : ∀ r : BT ByteArray, (∀ x ∈ r.fc, x.size ≤ 20) → (gK r).size + 3 ≤ 23 * r.fc.length
 | .leaf x, h => by
  rw [xR]
  have := h x (by simp [BT.fc])
  simp only [BT.fc, List.length_singleton]
  omega
 | .node a b, h => by
  have h1 := s5 a fun x hx => h x (List.mem_append_left _ hx)
  have h2 := s5 b fun x hx => h x (List.mem_append_right _ hx)
  rw [xS, Jg]
  simp only [BT.fc, List.length_append]
  omega
theorem s8 {L : List ByteArray} (h : L.length ≤ 4) (hz : ∀ x ∈ L, x.size ≤ 20) {s : ByteArray} (hs : s ∈ bg L) : s.size ≤ 100 := by
 obtain ⟨r, hr, rfl⟩ := List.mem_map.1 hs
 have hp := ve _ _ _ hr
 have h1 := s5 r fun x hx => hz x (hp.mem_iff.1 hx)
 have h2 := hp.length_eq
 omega
theorem gZ {L : List ByteArray} {M : Nat} (hz : ∀ x ∈ L, x.size ≤ M) (k : Nat) : (gs L k).size ≤ M := by
 by_cases hk : k < L.length
 ·have : gs L k = L[k] := by simp [gs, hk]
  rw [this]; exact hz _ (List.getElem_mem hk)
 ·have : gs L k = ByteArray.empty := by simp [gs, hk]
  rw [this]; exact Nat.zero_le _
end
section
open Go Go.RowKit Go.Deep
theorem nA {F : Fence} {nF : Nat} {P : Program} {ops : Array Oper} {rest : List Oper} {o : Oper} {a : Act} {Q : Exit → Act → World → Prop} (W : World) (hgd : o.guard = none) (s x : Operand) (t : TypeId) (ho : o.op = .call { callee := .builtin .append, args := #[s, x], argTypes := #[t, t] })
  (base : Nat) (e : TypeId) (z : Value) (bytes : Nat) (ht : P.underlying t = some (.slice e)) (hinfo : (P.info? e).map (fun i => (i.zero, i.size, i.bytes)) = some (some z, 1, bytes))
  (hz1 : z.cells.size = 1) (kY : bytes ≤ 64) {v : Value} {vs : List Value} (hown : az base e W v vs) (hs : a.eval s = v) (u : Value)
  (hx : a.eval x = .slice (some ⟨W.heap.size, 0, none⟩) 1 1) (h1 : u.oneCell' = true) (k : Nat) (wE : vs.length = k) (hn : k ≤ 1000000) (hbase : base ≤ W.heap.size)
  (h : ∀ g cap w', az base e w' (.slice (some ⟨g, 0, none⟩) (k + 1) cap) (vs ++ [u]) → W.grownBy w' v.ownBlock → (v.ownBlock = some g ∨ W.heap.size ≤ g) → wpListIn F nF P ops Q rest (a.put o.dst (.slice (some ⟨g, 0, none⟩) (k + 1) cap)) w') :
  wpListIn F nF P ops Q (o :: rest) a (W.alloc (.cells #[u] e)) := by
 subst wE
 obtain ⟨i, hi, hzz⟩ := Option.map_eq_some_iff.1 hinfo
 simp only [Prod.mk.injEq] at hzz
 obtain ⟨hz, hs1, hb⟩ := hzz
 refine wpListIn_plain hgd fun K hK' => ?_
 obtain ⟨g, cap, w', hr, h2, h3, h4, h5⟩ := run_append_lies (P := P) (W.alloc (.cells #[u] e)) t o.type base e i z 1 bytes ht hi hz hs1 hb hz1 (by omega) v vs.length vs (hown.alloc _) ⟨W.heap.size, 0, none⟩ 1 1 [u] rfl (cell_one_new _ _ _) (by simpa using h1) (by omega)
  (by unfold maxLen; omega) (by have : (vs.length + 1) * bytes ≤ (vs.length + 1) * 64 := Nat.mul_le_mul_left _ kY; omega) (by simp; omega) _ rfl
 unfold Oper.wpIn
 refine ⟨by simp [Oper.about, ho, resolve, Target.leads, Sem.run_pure], ?_⟩
 rw [Oper.semAt_plain F _ _ (by rw [ho]; intro c hc'; cases hc')]
 simp [execOp, ho, resolve, invoke, builtin, hs, hx, hr, Result.andThen]
 exact hK' _ _ (h g cap w' (by unfold az; rw [List.length_append]; exact h2) (gu h3) (h4.imp id fun e => by rw [e, World.size_alloc]; omega))
end
section
open Go.RowKit Go.Deep
end
section
section
variable (m : Nat) (cost : Nat → Nat → Int) (P8 : ByteArray → Int)
end
section
variable {m : Nat} {cost : Nat → Nat → Int} {P8 : ByteArray → Int}
end
end
section
section
variable {names : List ByteArray} {t : av} {S : Nat → List Int} {l : List (List Int)}
end
end
section
def dd : List Int → List Int
 | [] => []
 | x :: l => if x ∈ dd l then dd l else x :: dd l
theorem jt {x : Int} : ∀ {l : List Int}, x ∈ dd l ↔ x ∈ l
 | [] => Iff.rfl
 | y :: l => by
  unfold dd
  split
  ·rename_i h
   rw [jt (l := l), List.mem_cons]
   exact ⟨.inr, fun h2 => h2.elim (fun e => by rw [e]; exact jt.1 h) id⟩
  ·rw [List.mem_cons, List.mem_cons, jt (l := l)]
theorem kC : ∀ l : List Int, (dd l).Nodup
 | [] => List.nodup_nil
 | y :: l => by
  unfold dd
  split
  ·exact kC l
  ·rename_i h; exact List.nodup_cons.2 ⟨h, kC l⟩
theorem P9 {l m : List Int} (h : ∀ x ∈ l, x ∈ m) : (dd l).length ≤ (dd m).length :=
 (kC l).length_le_of_subset fun x hx => jt.2 (h x (jt.1 hx))
end
section
theorem Vh : kU (bM 16) = 0 := by decide +kernel
theorem XA {st : List Int} {m : Int} (h : fR st (-1) m = false) {k : Nat} (hk : k < st.length) : -1 ≤ gi st k ∧ gi st k < m := by
 have := any_false h hk
 simp at this; omega
theorem LC {l : List Int} {x : Int} (h : x ∈ l) : ∃ k, k < l.length ∧ gi l k = x := by
 obtain ⟨k, hk, e⟩ := List.mem_iff_getElem.1 h
 exact ⟨k, hk, by simp [gi, hk, e]⟩
section
variable {t : av} {st : List Int}
def aV (st : List Int) : List Int := st.filter fun s => decide (0 ≤ s)
end
end
section
open Go.RowKit Go.Deep
end
section
open Go.RowKit Go.Deep
end
section
open Go.RowKit Go.Deep
end
section
open Go.RowKit Go.Shelf Go.Deep
end
end Go.Proofs.YteegefnjnikngaaGreat
