/- split.below: an iterator over a recursive closure that owns what it builds: one node. The .. -/
import Derived.Test.YteegefnjnikngaaGreatQ1
import Derived.RangeFuncWrites
import Derived.Maps.OwnIn
import Derived.Test.YteegefnjnikngaaGreatQ9
import Derived.Test.YteegefnjnikngaaGreatQ8
import Derived.Test.YteegefnjnikngaaGreatQ3
import Derived.Test.YteegefnjnikngaaGreatQ10
import Derived.Test.YteegefnjnikngaaGreatQ15
import Derived.Test.YteegefnjnikngaaGreatQ38
import Derived.Test.YteegefnjnikngaaGreatQ13
import Derived.Test.YteegefnjnikngaaGreatQ33
import Derived.Test.YteegefnjnikngaaGreatQ26
import Derived.Test.YteegefnjnikngaaGreatQ37
import Derived.Test.YteegefnjnikngaaGreatQ23
import Derived.Test.YteegefnjnikngaaGreatQ18
import Derived.RangeFuncLeaves
import Derived.Test.YteegefnjnikngaaGreatQ4
import Derived.Test.YteegefnjnikngaaGreatQ17
set_option maxRecDepth 100000
namespace Go.Proofs.YteegefnjnikngaaGreat
section
open Go.RowKit Go.Shelf Go.Deep Go.Sort
abbrev El := Nat × Value
section
variable (w0 : World) (t : ax) (names : List ByteArray) (l Bt Be Bn Bq N : Nat) (J : List El → (Nat → Prop) → World → Prop)
variable {w0 t names l Bt Be Bn Bq N J}
theorem JJ (W : World) (base : Nat) (e : TypeId) (u : Value) (h : base ≤ W.heap.size) : aA base e (W.alloc (.cells #[u] e)) (.slice (some ⟨W.heap.size, 0, none⟩) 1 1) [u] :=
 ⟨rfl, .inr ⟨W.heap.size, 1, #[u], rfl, h, blk_alloc_new W _, Nat.le_refl _, by decide, rfl, rfl⟩⟩
end
end
section
end
section
section
variable {names : List ByteArray} {t : ax} {S : Nat → List Int} {l : List (List Int)}
end
end
section
open Go.RowKit Go.Shelf Go.Deep Go.Sort
section
variable {w0 : World} {t : ax} {names : List ByteArray} {l Bt Be Bn Bq N : Nat} {J : List El → (Nat → Prop) → World → Prop}
end
end
section
open Go.RowKit Go.Shelf Go.Deep
end
section
def c4 (a b : List Int) (i j : Bool) : Nat → Nat
 | 0 => 0
 | n + 1 => c4 a b i j n + if (a.contains (n : Int) == i && b.contains (n : Int) == j) then 1 else 0
end
section
def oG (t : ax) (names : List ByteArray) (st : List Int) (n : Nat) : List Int := (List.range n).map fun j => gi st (iI names (gs t.ns (gi (ay t.ns) j).toNat)).toNat
theorem tB (t : ax) (names : List ByteArray) (st : List Int) (n : Nat) : (oG t names st n).length = n := by simp [oG]
theorem Md {t : ax} {names : List ByteArray} {st : List Int} {n j : Nat} (h : j < n) : gi (oG t names st n) j = gi st (iI names (gs t.ns (gi (ay t.ns) j).toNat)).toNat := by simp [oG, gi, h]
theorem QM (t : ax) (names : List ByteArray) (st : List Int) (n : Nat) : oG t names st (n + 1) = oG t names st n ++ [gi st (iI names (gs t.ns (gi (ay t.ns) n).toNat)).toNat] := by simp [oG, List.range_succ]
section
variable {t : ax} {names : List ByteArray} {st : List Int}
theorem JK (h : mZ t names) {v : Nat} (hv : v < t.ps.length) (h0 : (gs t.ns v).size ≠ 0) : ∃ b : Nat, b < names.length ∧ gs names b = gs t.ns v ∧ iI names (gs t.ns v) = (b : Int) := by
 obtain ⟨b, hb, e⟩ := h.has v hv h0
 exact ⟨b, hb, e, by rw [← e]; exact fd_of h.nd hb⟩
end
end
section
open Go.RowKit Go.Deep Go.Shelf
theorem aD.grown {S : Nat → Prop} {X Y : World} {v : Value} {n : Nat} {f : Nat → Value} {row : Option Nat} (h : aD S X v n f) (hg : X.grownBy Y row) (hr : ∀ r, row = some r → ∃ o, X.heap[r]? = some o ∧ o.isCells = false) : aD S Y v n f := by
 obtain ⟨p, cap, rfl, hn, h⟩ := h
 refine ⟨p, cap, rfl, hn, ?_⟩
 by_cases h0 : n = 0
 ·exact .inl h0
 ·rcases h with h | ⟨g, off, rfl, hS, hc⟩
  ·exact absurd h h0
  ·refine .inr ⟨g, off, rfl, hS, fun k hk => ?_⟩
   have h1 := hc k hk
   have hl := World.block_lt_of_cell? X _ h1
   refine (World.cell?_of_block (a := ⟨g, off + k, none⟩) (hg.block g hl fun e => ?_)).trans h1
   obtain ⟨o, h2, h3⟩ := hr g e.symm
   simp only [World.cell?] at h1
   rw [h2] at h1
   cases o <;> simp [Obj.isCells] at h3 <;> simp at h1
section
variable {w6 : World} {t : ax} {names : List ByteArray}
end
end
section
open Go.RowKit Go.Shelf Go.Deep
end
section
end
section
end
section
section
variable {names : List ByteArray} {t : ax} {S : Nat → List Int} {l : List (List Int)} {la : Nat}
end
end
section
theorem CV : ∀ {p q : List ByteArray}, p.Nodup → (∀ x ∈ p, x ∈ q) → q.length ≤ p.length → p.Perm q
 | [], q, _, _, h => by
  have : q = [] := List.eq_nil_of_length_eq_zero (by simpa using h)
  rw [this]
 | x :: p, q, hn, hs, hl => by
  rw [List.nodup_cons] at hn
  have hx := hs x (by simp)
  obtain ⟨a, b, rfl⟩ := List.append_of_mem hx
  have h1 : p.Perm (a ++ b) := CV hn.2 (fun y hy => by
   have h2 := hs y (by simp [hy])
   rw [List.mem_append, List.mem_cons] at h2
   rw [List.mem_append]
   rcases h2 with h2 | h2 | h2
   ·exact .inl h2
   ·exact absurd (by rw [← h2]; exact hy) hn.1
   ·exact .inr h2) (by
   rw [List.length_append, List.length_cons, List.length_cons] at hl
   rw [List.length_append]; omega)
  exact (h1.cons x).trans List.perm_middle.symm
def cR (states : List (List Int)) (p : Nat) : List Int := states.map fun r => gi r p
def iL (t : ax) (names : List ByteArray) (states : List (List Int)) (p : Nat) : List Int := oG t names (cR states p) (ay t.ns).length
def cN (t : ax) (names : List ByteArray) (states : List (List Int)) : Int := b7 (fun p => cE t (iL t names states p) (bU 16)) (gl states 0).length
def dW (names : List ByteArray) (i : Nat) : Int := if aZ (gs names i).data.toList then (if dI names i then 7 else 0) else 14
def bZ (names : List ByteArray) : Int := if names.length < 2 ∨ 7 < names.length then 4 else firstNZ (dW names) names.length
def dQ (names : List ByteArray) (states : List (List Int)) : Int := if bZ names ≠ 0 then bZ names else if cB states ≠ 0 then 1 else if states.length ≠ names.length then 9 else 0
def lG (t : ax) (names : List ByteArray) : Bool := decide ((ay t.ns).length = names.length) && !DU t names
def jL (t : ax) (names : List ByteArray) (states : List (List Int)) : Int := if dQ names states ≠ 0 then dQ names states else if az t ≠ 0 then 1 else if lG t names then 0 else 9
def vK (t : ax) (names : List ByteArray) (states : List (List Int)) : Int := if jL t names states = 0 then cN t names states else 0
def mnK (f : Nat → Int) : Nat → Int
 | 0 => -1
 | k + 1 => if mnK f k < 0 ∨ f k < mnK f k then f k else mnK f k
def gt (l : List ax) (k : Nat) : ax := l.getD k ⟨[], []⟩
def kE (names : List ByteArray) (states : List (List Int)) : Int := mnK (fun k => cN (gt (allT names) k) names states) (allT names).length
def xk (names : List ByteArray) (states : List (List Int)) : List ax := (allT names).filter fun t => decide (cN t names states = kE names states)
theorem Tx (f : Nat → Int) (k : Nat) : mnK f (k + 1) = if mnK f k < 0 ∨ f k < mnK f k then f k else mnK f k := rfl
theorem ng {names : List ByteArray} (h5 : names.length ≤ 5) : bZ names = 0 ↔ fT names := by
 unfold bZ
 constructor
 ·intro h
  split at h
  ·cases h
  ·rename_i h1
   have h2 := kK h
   have hn : ∀ i, i < names.length → aZ (gs names i).data.toList = true ∧ dI names i = false := fun i hi => by
    have := h2 i hi
    unfold dW at this
    cases e1 : aZ (gs names i).data.toList <;> rw [e1] at this
    ·cases this
    ·cases e2 : dI names i <;> rw [e2] at this
     ·exact ⟨rfl, rfl⟩
     ·cases this
   refine ⟨by omega, h5, fun x hx => ?_, ?_⟩
   ·obtain ⟨i, hi, rfl⟩ := List.getElem_of_mem hx
    have := (hn i hi).1
    simpa [gs, hi] using this
   ·refine List.pairwise_iff_getElem.2 fun i j hi hj hij e => ?_
    have := (hn j hj).2
    unfold dI at this
    have := any_false this hij
    rw [decide_eq_false_iff_not] at this
    exact this (by simp [gs, hi, hj, e])
 ·intro h
  rw [if_neg (by have := h.lo; omega)]
  refine eN fun i hi => ?_
  unfold dW
  have h1 : gs names i = names[i] := by simp [gs, hi]
  rw [h1, h.nm _ (List.getElem_mem hi), if_pos rfl, if_neg]
  rw [Bool.not_eq_true]
  refine any_none fun j hj => ?_
  rw [decide_eq_false_iff_not, h1]
  intro e
  have h2 := List.pairwise_iff_getElem.1 h.nd j i (by omega) hi hj
  exact h2 (by simpa [gs, show j < names.length by omega] using e)
theorem Me {ns : List ByteArray} {n j : Nat} (hn : ns.length = n) (hj : j < n) (h0 : (gs ns j).size ≠ 0) : (gw ns j).toNat < (ay ns).length ∧ gi (ay ns) (gw ns j).toNat = j := xZ (KM (by omega) h0)
theorem fT.dist {names : List ByteArray} (h : fT names) : ∀ j k, j < k → k < names.length → gs names k ≠ gs names j := fun j k hjk hk e => by
 have h2 := List.pairwise_iff_getElem.1 h.nd j k (by omega) hk hjk
 exact h2 (by simpa [gs, hk, show j < names.length by omega] using e.symm)
theorem CW {t : ax} {names : List ByteArray} (h : fT names) (ht : az t = 0) : lG t names = true ↔ mZ t names := by
 obtain ⟨_, _, hnl, _, _⟩ := aH ht
 unfold lG
 rw [Bool.and_eq_true, decide_eq_true_iff, Bool.not_eq_true']
 constructor
 ·rintro ⟨h1, h2⟩
  refine ⟨ht, by have := h.hi; omega, h.dist, h1, fun j hj hj0 => ?_⟩
  obtain ⟨p1, p2⟩ := Me hnl hj hj0
  have := any_false h2 p1
  rw [p2, decide_eq_false_iff_not] at this
  exact F9.1 (by rw [Int.toNat_natCast] at this; omega)
 ·intro ho
  refine ⟨ho.len, any_none fun j hj => ?_⟩
  rw [decide_eq_false_iff_not]
  obtain ⟨v, hv, zX, hv0⟩ := r9 hj
  rw [hv, Int.toNat_natCast]
  have := F9.2 (ho.has v (by omega) hv0)
  omega
theorem CX {states : List (List Int)} (h : cB states = 0) : 0 < states.length ∧ (∀ k, k < states.length → (gl states k).length = (gl states 0).length ∧ ∀ p, p < (gl states 0).length → -1 ≤ gi (gl states k) p ∧ gi (gl states k) p < 16) := by
 unfold cB at h
 split at h
 ·cases h
 ·rename_i h0
  split at h
  ·cases h
  ·refine ⟨by omega, fun k hk => ?_⟩
   have := kK h k hk
   unfold jv at this
   split at this
   ·cases this
   ·rename_i h1
    split at this
    ·cases this
    ·rename_i h2
     have h1 : (gl states k).length = (gl states 0).length := by omega
     refine ⟨h1, fun p hp => st_bd (by simpa using h2) (by omega)⟩
structure tC (names : List ByteArray) (states : List (List Int)) : Prop where
 nm : fT names
 ag : cB states = 0
 len : states.length = names.length
theorem JL {names : List ByteArray} {states : List (List Int)} (h5 : names.length ≤ 5) : dQ names states = 0 ↔ tC names states := by
 unfold dQ
 constructor
 ·intro h
  split at h
  ·rename_i h1; exact absurd h h1
  ·rename_i h1
   split at h
   ·cases h
   ·rename_i h2
    split at h
    ·cases h
    ·rename_i h3
     exact ⟨(ng h5).1 (by omega), by omega, by omega⟩
 ·intro h
  rw [if_neg (by rw [(ng h5).2 h.nm]; simp), if_neg (by rw [h.ag]; simp), if_neg (by rw [h.len]; simp)]
def DV (names : List ByteArray) (st : List Int) (x : ByteArray) : Int := if x.size = 0 then -1 else if 0 ≤ iI names x then gi st (iI names x).toNat else -1
theorem JM (states : List (List Int)) (p : Nat) {k : Nat} (hk : k < states.length) : gi (cR states p) k = gi (gl states k) p := by simp [gi, cR, gl, hk]
section
variable {t u : ax} {names : List ByteArray} {states : List (List Int)}
theorem qK (hc : tC names states) (h : mZ t names) {p : Nat} (hp : p < (gl states 0).length) : Valid t (iL t names states p) (bU 16) := by
 refine ⟨h.te, Xw, tB _ _ _ _, ?_⟩
 unfold iP iL
 rw [tB]
 refine any_none fun j hj => ?_
 obtain ⟨v, hv, zX, hv0⟩ := r9 hj
 obtain ⟨_, _, hnl, _, _⟩ := aH h.te
 obtain ⟨b, hb, _, e⟩ := JK h (show v < t.ps.length by omega) hv0
 rw [Md hj, hv, Int.toNat_natCast, e, Int.toNat_natCast, JM _ _ (by rw [hc.len]; exact hb)]
 have := ((CX hc.ag).2 b (by rw [hc.len]; exact hb)).2 p hp
 rw [kZ, Bool.or_eq_false_iff, decide_eq_false_iff_not, decide_eq_false_iff_not]
 omega
theorem Mf (h : mZ t names) {i p : Nat} (hi : i < t.ps.length) (hk : aQ t.ps i = []) : DV names (cR states p) (gs t.ns i) = nT t.ns (iL t names states p) i := by
 have hl := QL h.te hi hk
 obtain ⟨_, _, hnl, _, _⟩ := aH h.te
 obtain ⟨p1, p2⟩ := Me hnl hi hl.nm
 obtain ⟨b, hb, _, e⟩ := JK h hi hl.nm
 have h1 := VS (st := iL t names states p) p1 p2
 rw [h1]
 unfold DV iL
 rw [if_neg hl.nm, if_pos (by omega), Md p1, p2, Int.toNat_natCast]
theorem metr16 : mq (bU 16).length (gM (bU 16)) := by
 have hc : ∀ a b, a < 16 → b < 16 → gM (bU 16) a b = if a = b then 0 else 1 := fun a b ha hb => Oh ha hb
 rw [kZ]
 refine ⟨fun a b ha hb => ?_, fun a ha => ?_, fun a b ha hb => ?_, fun a b c ha hb hc2 => ?_⟩
 ·rw [hc a b ha hb]; split <;> omega
 ·rw [hc a a ha ha]; simp
 ·rw [hc a b ha hb, hc b a hb ha]
  by_cases e : a = b
  ·rw [if_pos e, if_pos e.symm]
  ·rw [if_neg e, if_neg (Ne.symm e)]
 ·rw [hc a c ha hc2, hc a b ha hb, hc b c hb hc2]
  by_cases e : a = c
  ·rw [if_pos e]; split <;> split <;> omega
  ·rw [if_neg e]
   by_cases e2 : a = b
   ·subst e2; rw [if_pos rfl, if_neg e]; omega
   ·rw [if_neg e2]; split <;> omega
theorem CY (hc : tC names states) (ht : mZ t names) (hu : mZ u names) (h : ∀ m cost bg, mq m cost → (∀ x : ByteArray, x.size = 0 → bg x < 0) → ∀ s c, AttR m cost bg (dU t) s c → ∃ s' c', c' ≤ c ∧ AttR m cost bg (dU u) s' c') : cN u names states ≤ cN t names states := by
 unfold cN
 refine tK fun p hp => ?_
 obtain ⟨⟨s, h1⟩, _⟩ := FB (bg := DV names (cR states p)) (qK hc ht hp) fun i hi hk => Mf ht hi hk
 obtain ⟨_, h2⟩ := FB (bg := DV names (cR states p)) (qK hc hu hp) fun i hi hk => Mf hu hi hk
 obtain ⟨s', c', h3, h4⟩ := h _ _ (DV names (cR states p)) metr16 (fun x hx => by unfold DV; rw [if_pos hx]; omega) _ _ h1
 have := h2 s' c' h4
 omega
theorem of_flat (hn : fT names) {q : RT} (ht : az (flat q) = 0) (hq : (bu q).Perm names) : mZ (flat q) names := by
 have h1 : (mS (flat q).ns).Perm names := by
  have := wX ht
  rw [pG] at this
  exact this.symm.trans hq
 refine ⟨ht, by have := hn.hi; omega, hn.dist, by rw [Fa, h1.length_eq], fun j hj hj0 => ?_⟩
 obtain ⟨_, _, hnl, _, _⟩ := aH ht
 have hm : gs (flat q).ns j ∈ names := h1.mem_iff.1 (Ma.2 ⟨j, by omega, rfl, hj0⟩)
 obtain ⟨b, hb, e⟩ := List.getElem_of_mem hm
 exact ⟨b, hb, by simp [gs, hb] at e ⊢; exact e⟩
theorem DW (hn : fT names) (ht : t ∈ allT names) : mZ t names ∧ ∃ q ∈ bD names, t = flat q := by
 obtain ⟨q, hq, rfl⟩ := List.mem_map.1 ht
 obtain ⟨_, h2, _, _, h5, _⟩ := fJ hn hq
 exact ⟨of_flat hn h5 h2, q, hq, rfl⟩
theorem JN {l : List ax} {k : Nat} (h : k < l.length) : gt l k ∈ l := by simp [gt, h]
theorem Ty (hn : fT names) : 0 < (allT names).length := by
 unfold allT
 rw [List.length_map, rS hn]
 split <;> (try split) <;> (try split) <;> omega
end
end
section
open Go.RowKit Go.Deep
end
section
open Go.RowKit Go.Shelf Go.Deep Go.Sort
set_option maxHeartbeats 400000 in
theorem KO (w : World) (mp : Option Addr) (n c : Nat) : Calls Tryz.prog 178 #[.slice mp n c] w fun e w' => e = .returned (.func (.func 231) #[] #[.pointer (some ⟨w.heap.size, 0, none⟩)]) ∧ w' = w.alloc (.cells #[.slice mp n c] 22) := by
 go_enter Tryz.func178, Tryz.ntmps178
 go_wp2_with fail
 go_ret
 exact ⟨by simp, rfl⟩
abbrev Dv := Nat × Value × Value
def GvD (names : List ByteArray) (x : Dv) (L : Nat → Prop) (W : World) : Prop := (1 ≤ x.1 ∧ x.1 < 2 ^ (names.length - 1)) ∧ av L W x.2.1 (dA names x.1) ∧ av L W x.2.2 (dB names x.1)
theorem WO {names : List ByteArray} {B : Nat} (x : Dv) (L : Nat → Prop) : OwnFrom B (fun (_ : Unit) W => GvD names x L W) := by
 intro s X Y row h hg hr
 obtain ⟨h1, h2, h3⟩ := h
 exact ⟨h1, aD.grown h2 hg fun r e => (hr r e).2, aD.grown h3 hg fun r e => (hr r e).2⟩
theorem JO : ∀ q : Nat, q < 8 → bits BinOp.and IntKind.i64 ((q : Nat) : Int) 1 = ((q : Nat) : Int) % 2 := by decide +kernel
theorem Mg (k i : Nat) : (((k / 2 ^ i : Nat) : Int)) % 2 = if k.testBit i then 1 else 0 := by
 rw [Nat.testBit_eq_decide_div_mod_eq]
 generalize k / 2 ^ i = q
 by_cases h : q % 2 = 1
 ·rw [decide_eq_true h, if_pos rfl]; omega
 ·rw [decide_eq_false h, if_neg (by decide)]; omega
structure Dup (B : Nat) (W : World) (a b : Value) (A C : List ByteArray) : Prop where
 ao : aA B 9 W a (A.map Value.string)
 bo : aA B 9 W b (C.map Value.string)
 ap : ∀ g, a.ownBlock = some g → b.ownBlock ≠ some g
theorem Dup.appA {B : Nat} {W W' : World} {a b : Value} {A C : List ByteArray} {g cap k : Nat} {s : ByteArray} (h : Dup B W a b A C) (ho : aA B 9 W' (.slice (some ⟨g, 0, none⟩) k cap) (A.map Value.string ++ [.string s])) (hg : W.grownBy W' a.ownBlock) (eR : a.ownBlock = some g ∨ W.heap.size ≤ g) : Dup B W' (.slice (some ⟨g, 0, none⟩) k cap) b (A ++ [s]) C := by
 refine ⟨by rw [List.map_append]; exact ho, h.bo.eV fun x hx => hg.block x (aF h.bo hx).2 fun e => h.ap x e.symm hx, fun x hx hx2 => ?_⟩
 have hx : some g = some x := hx
 injection hx with hx; subst hx
 rcases eR with e | e
 ·exact h.ap g e hx2
 ·have := (aF h.bo hx2).2; omega
theorem Dup.appB {B : Nat} {W W' : World} {a b : Value} {A C : List ByteArray} {g cap k : Nat} {s : ByteArray} (h : Dup B W a b A C) (ho : aA B 9 W' (.slice (some ⟨g, 0, none⟩) k cap) (C.map Value.string ++ [.string s])) (hg : W.grownBy W' b.ownBlock) (eR : b.ownBlock = some g ∨ W.heap.size ≤ g) : Dup B W' a (.slice (some ⟨g, 0, none⟩) k cap) A (C ++ [s]) := by
 refine ⟨h.ao.eV fun x hx => hg.block x (aF h.ao hx).2 fun e => h.ap x hx e.symm, by rw [List.map_append]; exact ho, fun x hx hx2 => ?_⟩
 have hx2 : some g = some x := hx2
 injection hx2 with hx2; subst hx2
 rcases eR with e | e
 ·exact h.ap g hx e
 ·have := (aF h.ao hx).2; omega
section
variable {w0 w9 : World} {names : List ByteArray} {Bt N : Nat}
set_option maxHeartbeats 2000000 in
theorem Tz (m : Nat) {mp : Option Addr} {mc : Nat} (h2 : 2 ≤ names.length) (h4 : names.length ≤ 4) (hB : w0.heap.size ≤ Bt)
  (hb : w9.cell? ⟨Bt, 0, none⟩ = some (.slice mp names.length mc)) (JP : av Any w0 (.slice mp names.length mc) names) (hN : 2 ^ (names.length - 1) - 1 ≤ N) :
  Yf Fence.wide m Tryz.prog 231 #[.pointer (some ⟨Bt, 0, none⟩)] (fun x : Dv => #[x.2.1, x.2.2]) (GvD names) (fun _ _ => False) (fun xs => xs.map (·.1) = List.range' 1 (2 ^ (names.length - 1) - 1)) N w0 w9 (fun b => b = Bt) := by
 intro l J W hW hL9 hW9 hA hY hJ
 obtain ⟨Vy, kt1⟩ := hL9 Bt rfl
 have wB := (World.cell?_of_block (a := ⟨Bt, 0, none⟩) kt1).trans hb
 obtain ⟨nb, no, rfl, hc0⟩ := cu JP (k := 0) (by omega)
 obtain ⟨M, hM⟩ : ∃ M, M = 2 ^ (names.length - 1) := ⟨_, rfl⟩
 have QN : M ≤ 8 := by rw [hM]; exact Nat.pow_le_pow_right (n := 2) (by decide) (show names.length - 1 ≤ 3 by omega)
 have hM1 : 1 ≤ M := by rw [hM]; exact Nat.one_le_two_pow
 have Vz : wrap64 ((2 : Int) ^ (names.length - 1)) = (M : Int) := by
  have : (2 : Int) ^ (names.length - 1) = ((2 ^ (names.length - 1) : Nat) : Int) := by simp
  rw [this, ← hM]; unfold wrap64; omega
 have Y7 : names.length ≤ mc := by
  obtain ⟨_, _, e, h, _⟩ := aD.open JP
  injection e with e1 e2 e3
  omega
 have nu : Hid (∀ i, i < names.length → ∀ W, Up w0 W → W.cell? ⟨nb, no + i, none⟩ = some (.string (gs names i))) := fun i hi W hW => hW.cell (aD.XA JP hi)
 rw [← hM] at hN
 have IK : Hid (J [] (fun b => b = Bt) W) := hJ
 have HY := aa hY
 have HA := aa hA
 have HW := aa hW
 have HWB := aa wB
 have HL : Hid (Bt < W.heap.size) := Nat.lt_of_lt_of_le Vy hW9
 have HM := aa hM
 have HN := aa hN
 have HB := aa hB
 have HMB : Hid (M ≤ 8) := QN
 clear hW hL9 hW9 hA hY hJ kt1 Vy JP hc0 hb hM hN hB
 refine callsIn_of_wp Tryz.func231 rfl trivial ?_ rfl
 simp only [Tryz.ntmps231, List.size_toArray, List.length_cons, List.length_nil, Nat.reduceAdd, Nat.reduceSub, Array.replicate_succ, Array.replicate_zero, List.push_toArray, List.append_toArray, List.nil_append, List.cons_append]
 gi_wp2
 gi_loopw [3, 4, 5, 6, 7] (fun i _ _ _ _ wr => ∃ (k : Nat) (ys : List Dv) (L' : Nat → Prop), 1 ≤ k ∧ k ≤ M ∧ i = .int .i64 k ∧ Hid (ys.map (·.1) = List.range' 1 (k - 1)) ∧ Hid (J ys L' wr) ∧ Hid (Below w0.heap.size w0 wr) ∧ Hid (∀ b, L' b → w0.heap.size ≤ b ∧ b < wr.heap.size) ∧ Hid (L' Bt) ∧ Hid (wr.cell? ⟨Bt, 0, none⟩ = some (.slice (some ⟨nb, no, none⟩) names.length mc))) (fun i _ _ _ _ _ => M - (intOf i).toNat)
 case atStart => exact ⟨1, [], _, Nat.le_refl _, hM1, rfl, rfl, IK.out, HW.out, fun b hb => by rw [hb]; exact ⟨HB.out, HL.out⟩, rfl, HWB.out⟩
 case round =>
  obtain ⟨k, ys, L', hk1, hk, rfl, hys, hJk, QO, BW, hLB, hcB⟩ := hrel
  obtain ⟨wo, rfl⟩ : ∃ wo : World, wo = wr := ⟨_, rfl⟩
  have hcb := hcB.out
  have hn0 := nu.out 0 (by omega) wo QO.out
  rw [Nat.add_zero] at hn0
  have i0 : (0 : Int) ≤ (k : Int) := by omega
  by_cases hlt : k < M
  ·have i1 : (k : Int) < (M : Int) := by omega
   have i2 : (k : Int) < 8 := by omega
   have i3 : 0 < names.length := by omega
   have i4 : (0 : Int) < (names.length : Int) := by omega
   have i5 : (1 : Int) ≤ (names.length : Int) := by omega
   have i6 : 1 ≤ names.length := by omega
   have i7 : ¬ mc = 1 := by omega
   have i8 : names.length ≤ mc := Y7
   have aX := Up.alloc wo (.cells #[.string (gs names 0)] 9)
   have hD0 : Dup wo.heap.size (wo.alloc (.cells #[.string (gs names 0)] 9)) (.slice (some ⟨wo.heap.size, 0, none⟩) 1 1) (.slice none 0 0) [gs names 0] [] := ⟨JJ wo _ _ _ (Nat.le_refl _), aA.nil _ _ _, fun g _ e => by cases e⟩
   have VA := aa hD0
   have bT := aa aX
   have hcb1 := aX.cell hcb
   clear hD0 aX
   gi_wp2
   generalize wo.alloc (.cells #[.string (gs names 0)] 9) = w1 at *
   simp only [Vz]
   clear Vz
   gi_loopw [4, 5, 6, 7, 23] (fun a b _ _ i wr => ∃ j : Nat, j ≤ names.length - 1 ∧ i = .int .i64 j ∧ Hid (Dup wo.heap.size wr a b (gs names 0 :: bB (fun i => !k.testBit i) names.tail j) (bB (fun i => k.testBit i) names.tail j)) ∧ Hid (Up wo wr)) (fun _ _ _ _ i _ => names.length - 1 - (intOf i).toNat)
   case atStart => exact ⟨0, Nat.zero_le _, rfl, VA.out, bT.out⟩
   case round =>
    obtain ⟨j, hj, rfl, hD, hU⟩ := hrel
    obtain ⟨wi, rfl⟩ : ∃ wi : World, wi = wr := ⟨_, rfl⟩
    have j0 : (0 : Int) ≤ (j : Int) := by omega
    by_cases hlj : j < names.length - 1
    ·have xx := nu.out (j + 1) (by omega) wi (QO.out.trans (hU.out.mono QO.out.size))
     rw [show no + (j + 1) = no + 1 + j by omega] at xx
     have j1 : (j : Int) < ((names.length - 1 : Nat) : Int) := by omega
     have j2 : (j : Int) < 4 := by omega
     have vL : bits BinOp.and IntKind.i64 ((k : Int) / 2 ^ j) 1 = if k.testBit j then 1 else 0 := by
      have e : (k : Int) / 2 ^ j = ((k / 2 ^ j : Nat) : Int) := by simp
      have : k / 2 ^ j ≤ k := Nat.div_le_self _ _
      rw [e, JO _ (by omega), Mg]
     have js := aa (iQ (fun i => !k.testBit i) names.tail j)
     have ct := aa (iQ (fun i => k.testBit i) names.tail j)
     have uj : Hid (names.tail.getD j default = gs names (j + 1)) := by
      unfold Hid gs
      cases names with
      | nil => simp at hlj
      | cons a l => rfl
     have CZ := aa hlj
     have yJ : Hid (((gs names 0 :: bB (fun i => !k.testBit i) names.tail j).map Value.string).length ≤ 1000000 ∧ ((bB (fun i => k.testBit i) names.tail j).map Value.string).length ≤ 1000000) := by
      have a1 := nj (fun i => !k.testBit i) names.tail j
      have a2 := nj (fun i => k.testBit i) names.tail j
      unfold Hid
      rw [List.length_map, List.length_map, List.length_cons]
      omega
     have bQ : Hid (wo.heap.size ≤ wi.heap.size) := hU.out.size
     obtain ⟨ap, ac, rfl, -⟩ := hD.out.ao.form rfl
     obtain ⟨bp, bc, rfl, -⟩ := hD.out.bo.form rfl
     rw [uj.out] at js ct
     clear hlj
     cases hb : k.testBit j
     ·rw [hb] at vL js ct
      have vL : bits BinOp.and IntKind.i64 ((k : Int) / 2 ^ j) 1 = 0 := vL
      have js : Hid (bB (fun i => !k.testBit i) names.tail (j + 1) = bB (fun i => !k.testBit i) names.tail j ++ [gs names (j + 1)]) := js.out
      have ct : Hid (bB (fun i => k.testBit i) names.tail (j + 1) = bB (fun i => k.testBit i) names.tail j) := by unfold Hid; rw [ct.out]; simp
      clear hb
      gi_wp2_with (gi_at_builtin; refine qU wi rfl _ _ 22 rfl wo.heap.size 9 (.string ⟨#[]⟩) 16 Tryz.underlying22 Tryz.jf rfl (by decide) hD.out.ao rfl (.string (gs names (j + 1))) rfl rfl _ rfl yJ.out.1 bQ.out ?_; intro g8 iz w8 cA dw gC; have JQ := aa (hD.out.appA cA dw gC); have qz := aa (hD.out.ao.dJ dw bQ.out); clear cA dw gC)
      go_roundw
      case rel => exact ⟨j + 1, by have := CZ.out; omega, by go_num, by rw [js.out, ct.out]; have q := JQ.out; simp only [List.length_map, List.length_cons] at q; exact q, Below.trans (show Below wo.heap.size wo wi from hU.out) qz.out⟩
      case measure => have := CZ.out; simp [intOf]; omega
     ·rw [hb] at vL js ct
      have vL : bits BinOp.and IntKind.i64 ((k : Int) / 2 ^ j) 1 = 1 := vL
      have js : Hid (bB (fun i => !k.testBit i) names.tail (j + 1) = bB (fun i => !k.testBit i) names.tail j) := by unfold Hid; rw [js.out]; simp
      have ct : Hid (bB (fun i => k.testBit i) names.tail (j + 1) = bB (fun i => k.testBit i) names.tail j ++ [gs names (j + 1)]) := ct.out
      clear hb
      gi_wp2_with (gi_at_builtin; refine qU wi rfl _ _ 22 rfl wo.heap.size 9 (.string ⟨#[]⟩) 16 Tryz.underlying22 Tryz.jf rfl (by decide) hD.out.bo rfl (.string (gs names (j + 1))) rfl rfl _ rfl yJ.out.2 bQ.out ?_; intro g8 iz w8 cA dw gC; have JQ := aa (hD.out.appB cA dw gC); have qz := aa (hD.out.bo.dJ dw bQ.out); clear cA dw gC)
      go_roundw
      case rel => exact ⟨j + 1, by have := CZ.out; omega, by go_num, by rw [js.out, ct.out]; have q := JQ.out; simp only [List.length_map, List.length_cons] at q; exact q, Below.trans (show Below wo.heap.size wo wi from hU.out) qz.out⟩
      case measure => have := CZ.out; simp [intOf]; omega
    ·obtain rfl : j = names.length - 1 := by omega
     obtain ⟨ap, ac, hae, -⟩ := hD.out.ao.form rfl
     obtain ⟨bp, bc, B6, -⟩ := hD.out.bo.form rfl
     subst hae
     subst B6
     obtain ⟨va, hva⟩ : ∃ va, va = Value.slice ap ((gs names 0 :: bB (fun i => !k.testBit i) names.tail (names.length - 1)).map Value.string).length ac := ⟨_, rfl⟩
     obtain ⟨vb, hvb⟩ : ∃ vb, vb = Value.slice bp ((bB (fun i => k.testBit i) names.tail (names.length - 1)).map Value.string).length bc := ⟨_, rfl⟩
     rw [← hva, ← hvb] at hD
     have hj7 : J ys (fun b => L' b ∨ (wo.heap.size ≤ b ∧ b < wi.heap.size)) wi := HA.out ys L' _ wo wi hJk.out ⟨hU.out.os, hU.out.tape, hU.out.output, hU.out.size, fun b hb _ => Below.block hU.out b hb, fun b hb => hb.imp (fun e => ⟨e, (BW.out b e).2⟩) id⟩
     have OQ : GvD names (k, va, vb) (fun b => L' b ∨ (wo.heap.size ≤ b ∧ b < wi.heap.size)) wi := ⟨⟨hk1, by rw [← HM.out]; exact hlt⟩, hD.out.ao.strs.sub fun b hb hl => .inr ⟨hb, hl⟩, hD.out.bo.strs.sub fun b hb hl => .inr ⟨hb, hl⟩⟩
     have hys2 := congrArg List.length hys.out
     rw [List.length_map, List.length_range'] at hys2
     have hwi := hU.out.size
     have hwo := QO.out.size
     obtain ⟨fn, tmps, assign, body, hy, hR⟩ := HY.out ys (k, va, vb) _ wi hj7 OQ (QO.out.trans (hU.out.mono hwo)) (fun b hb => by
      rcases hb with hb | hb
      ·have := BW.out b hb; omega
      ·omega) (by have := HN.out; omega)
     have HYS : Hid ((ys ++ [(k, va, vb)]).map (·.1) = List.range' 1 k) := by
      unfold Hid
      rw [List.map_append, hys.out]
      have : k = (k - 1) + 1 := by omega
      conv => rhs; rw [this, List.range'_concat]
      simp; omega
     have uQ : Hid (∀ b, (L' b ∨ (wo.heap.size ≤ b ∧ b < wi.heap.size)) → w0.heap.size ≤ b ∧ b < wi.heap.size) := fun b hb => by
      rcases hb with hb | hb
      ·have := BW.out b hb; omega
      ·omega
     have hcb2 := hU.out.cell hcb
     have HCB2 := aa hcb2
     have aY := aa hlt
     simp only at hy
     clear hj7 OQ hys2 hD hwi hwo VA
     rw [← hva, ← hvb]
     clear hva hvb
     gi_wp2
     first | refine ⟨trivial, fun h => (by cases h), ?_⟩ | refine ⟨fun h => (by cases h), ?_⟩
     refine hR.mono ?_
     rintro e W7 ⟨rfl, hj8, qz, hs8, hk8⟩
     have H8 := aa (⟨hj8, qz, hs8, hk8⟩ : _ ∧ _ ∧ _ ∧ _)
     clear hj8 qz hs8 hk8 hR
     gi_wp2
     go_roundw
     case rel => exact ⟨k + 1, ys ++ [(k, va, vb)], _, by omega, aY.out, by go_num, HYS.out, H8.out.1, H8.out.2.1, fun b hb => by have h1 := uQ.out b hb; have h2 := H8.out.2.2.1; omega, .inl hLB.out, (World.cell?_of_block (a := ⟨Bt, 0, none⟩) (H8.out.2.2.2 Bt (.inl (.inl hLB.out)))).trans HCB2.out⟩
     case measure => have := aY.out; simp [intOf]; omega
  ·obtain rfl : k = M := by omega
   gi_wp2
   go_end0
   exact ⟨⟨_, rfl⟩, ys, L', by rw [hys.out, HM.out], hJk.out⟩
end
end
section
open Go.RowKit Go.Deep
end
section
open Go.RowKit Go.Deep Go.Shelf
end
section
section
variable {t : ax} {st : List Int}
end
def VB (states : List (List Int)) (p : Nat) : Nat := (dd (dx (cR states p))).length
def oH (states : List (List Int)) (p : Nat) : Int := if VB states p = 0 then 0 else (VB states p : Int) - 1
def JR (states : List (List Int)) : Int := b7 (oH states) (gl states 0).length
def NK (states : List (List Int)) : Int := if cB states = 0 then 0 else 1
def NL (states : List (List Int)) : Int := if cB states = 0 then JR states else 0
theorem xm (states : List (List Int)) (p : Nat) : (cR states p).length = states.length := by unfold cR; rw [List.length_map]
theorem ddP_le (states : List (List Int)) (p : Nat) : VB states p ≤ states.length := by
 unfold VB
 have h1 : (dd (dx (cR states p))).length ≤ (dx (cR states p)).length := (sg _).length_le_of_subset fun x hx => uM.1 hx
 have h2 : (dx (cR states p)).length ≤ (cR states p).length := List.length_filter_le _ _
 rw [xm] at h2
 omega
theorem Mh (states : List (List Int)) (p : Nat) : 0 ≤ oH states p ∧ oH states p ≤ states.length := by
 have := ddP_le states p
 unfold oH
 split <;> omega
section
variable {t u : ax} {names : List ByteArray} {states : List (List Int)}
theorem QS (_hn : fT names) (ht : mZ t names) : (mS t.ns).Perm names := by
 have fk : (mS t.ns).Nodup := (wX ht.te).nodup (wK ht.te).nd
 refine CV fk (fun x hx => ?_) ?_
 ·obtain ⟨j, hj, rfl, hj0⟩ := Ma.1 hx
  obtain ⟨_, _, hnl, _, _⟩ := aH ht.te
  obtain ⟨b, hb, e⟩ := ht.has j (by omega) hj0
  rw [← e]; simp [gs, hb]
 ·rw [← Fa, ht.len]; omega
end
end
section
open Go.RowKit Go.Deep
section
variable {tb r o n : Nat} {W X : World} {P N P' N' ov nv nv' : Value} {own : List (List Int)} {nds : List Int}
end
end
end Go.Proofs.YteegefnjnikngaaGreat
