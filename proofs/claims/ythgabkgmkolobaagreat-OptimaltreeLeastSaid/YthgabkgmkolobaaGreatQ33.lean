/- Plain: scores of trees for named states, errors of names and states, optimal trees. Lists .. -/
import Derived.Test.YthgabkgmkolobaaGreatQ30
import Derived.Test.YthgabkgmkolobaaGreatQ22
import Derived.Test.YthgabkgmkolobaaGreatQ31
import Derived.Test.YthgabkgmkolobaaGreatQ15
import Derived.StillTail
import Derived.Shelf.SlGeneric
import Derived.Shelf.SlSortCmp.NoneTotal
import Derived.Test.YthgabkgmkolobaaGreatProg
import Derived.Test.YthgabkgmkolobaaGreatQ32
import Derived.Test.YthgabkgmkolobaaGreatQ3
import Derived.Test.YthgabkgmkolobaaGreatQ6
import Derived.Test.YthgabkgmkolobaaGreatQ1
import Derived.Test.YthgabkgmkolobaaGreatQ24
import Derived.Test.YthgabkgmkolobaaGreatQ8
import Derived.Deep.RegionWith
import Derived.Deep.RegionHeld
import Derived.Test.YthgabkgmkolobaaGreatQ19
import Derived.Test.YthgabkgmkolobaaGreatQ4
import Derived.Test.YthgabkgmkolobaaGreatQ21
import Derived.Deep.CutRange
import Derived.Test.YthgabkgmkolobaaGreatQ17
import Derived.Test.YthgabkgmkolobaaGreatQ5
import Derived.Test.YthgabkgmkolobaaGreatQ16
import Derived.RangeFuncWrites
import Derived.Laws.EntriesVeiled
import Derived.Shelf.Slices.Empties
import Derived.Shelf.Slices.SearchI
import Derived.Ground.Names2Prog
import Derived.Test.YthgabkgmkolobaaGreatQ29
import Derived.Test.YthgabkgmkolobaaGreatQ2
import Derived.Test.YthgabkgmkolobaaGreatQ14
set_option maxRecDepth 100000
namespace Go.Proofs.YthgabkgmkolobaaGreat
section
def cN (states : List (List Int)) (p : Nat) : List Int := states.map fun r => gi r p
def fu (t : ay) (names : List ByteArray) (states : List (List Int)) (p : Nat) : List Int := nX t names (cN states p) (aj t.ns).length
def bG (t : ay) (names : List ByteArray) (states : List (List Int)) : Int := aZ (fun p => bZ t (fu t names states p) (bE 16)) (gl states 0).length
def dO (names : List ByteArray) (i : Nat) : Int := if aY (gs names i).data.toList then (if dm names i then 7 else 0) else 14
def bW (names : List ByteArray) : Int := if names.length < 2 ∨ 7 < names.length then 4 else firstNZ (dO names) names.length
def cI (names : List ByteArray) (states : List (List Int)) : Int := if bW names ≠ 0 then bW names else if cn states ≠ 0 then 1 else if states.length ≠ names.length then 9 else 0
def kZ (t : ay) (names : List ByteArray) : Bool := decide ((aj t.ns).length = names.length) && !Dh t names
def mnK (f : Nat → Int) : Nat → Int
 | 0 => -1
 | k + 1 => if mnK f k < 0 ∨ f k < mnK f k then f k else mnK f k
def gt (l : List ay) (k : Nat) : ay := l.getD k ⟨[], []⟩
def bT (names : List ByteArray) (states : List (List Int)) : Int := mnK (fun k => bG (gt (allT names) k) names states) (allT names).length
def dI (names : List ByteArray) (states : List (List Int)) : List ay := (allT names).filter fun t => decide (bG t names states = bT names states)
theorem sA (f : Nat → Int) (k : Nat) : mnK f (k + 1) = if mnK f k < 0 ∨ f k < mnK f k then f k else mnK f k := rfl
theorem mJ {names : List ByteArray} (h5 : names.length ≤ 5) : bW names = 0 ↔ cH names := by
 unfold bW
 constructor
 ·intro h
  split at h
  ·cases h
  ·rename_i h1
   have h2 := j9 h
   have hn : ∀ i, i < names.length → aY (gs names i).data.toList = true ∧ dm names i = false := fun i hi => by
    have := h2 i hi
    unfold dO at this
    cases e1 : aY (gs names i).data.toList <;> rw [e1] at this
    ·cases this
    ·cases e2 : dm names i <;> rw [e2] at this
     ·exact ⟨rfl, rfl⟩
     ·cases this
   refine ⟨by omega, h5, fun x hx => ?_, ?_⟩
   ·obtain ⟨i, hi, rfl⟩ := List.getElem_of_mem hx
    have := (hn i hi).1
    simpa [gs, hi] using this
   ·refine List.pairwise_iff_getElem.2 fun i j hi hj hij e => ?_
    have := (hn j hj).2
    unfold dm at this
    have := any_false this hij
    rw [decide_eq_false_iff_not] at this
    exact this (by simp [gs, hi, hj, e])
 ·intro h
  rw [if_neg (by have := h.lo; omega)]
  refine dJ fun i hi => ?_
  unfold dO
  have h1 : gs names i = names[i] := by simp [gs, hi]
  rw [h1, h.nm _ (List.getElem_mem hi), if_pos rfl, if_neg]
  rw [Bool.not_eq_true]
  refine any_none fun j hj => ?_
  rw [decide_eq_false_iff_not, h1]
  intro e
  have h2 := List.pairwise_iff_getElem.1 h.nd j i (by omega) hi hj
  exact h2 (by simpa [gs, show j < names.length by omega] using e)
theorem Dn {ns : List ByteArray} {n j : Nat} (hn : ns.length = n) (hj : j < n) (h0 : (gs ns j).size ≠ 0) : (eM ns j).toNat < (aj ns).length ∧ gi (aj ns) (eM ns j).toNat = j := sW (Kk (by omega) h0)
theorem cH.IL {names : List ByteArray} (h : cH names) : ∀ j k, j < k → k < names.length → gs names k ≠ gs names j := fun j k hjk hk e => by
 have h2 := List.pairwise_iff_getElem.1 h.nd j k (by omega) hk hjk
 exact h2 (by simpa [gs, hk, show j < names.length by omega] using e.symm)
theorem Ck {t : ay} {names : List ByteArray} (h : cH names) (ht : az t = 0) : kZ t names = true ↔ kW t names := by
 obtain ⟨_, _, hnl, _, _⟩ := aD ht
 unfold kZ
 rw [Bool.and_eq_true, decide_eq_true_iff, Bool.not_eq_true']
 constructor
 ·rintro ⟨h1, h2⟩
  refine ⟨ht, by have := h.hi; omega, h.IL, h1, fun j hj hj0 => ?_⟩
  obtain ⟨p1, p2⟩ := Dn hnl hj hj0
  have := any_false h2 p1
  rw [p2, decide_eq_false_iff_not] at this
  exact FJ.1 (by rw [Int.toNat_natCast] at this; omega)
 ·intro ho
  refine ⟨ho.len, any_none fun j hj => ?_⟩
  rw [decide_eq_false_iff_not]
  obtain ⟨v, hv, zN, hv0⟩ := oB hj
  rw [hv, Int.toNat_natCast]
  have := FJ.2 (ho.has v (by omega) hv0)
  omega
theorem Cl {states : List (List Int)} (h : cn states = 0) : 0 < states.length ∧ (∀ k, k < states.length → (gl states k).length = (gl states 0).length ∧ ∀ p, p < (gl states 0).length → -1 ≤ gi (gl states k) p ∧ gi (gl states k) p < 16) := by
 unfold cn at h
 split at h
 ·cases h
 ·rename_i h0
  split at h
  ·cases h
  ·refine ⟨by omega, fun k hk => ?_⟩
   have := j9 h k hk
   unfold iY at this
   split at this
   ·cases this
   ·rename_i h1
    split at this
    ·cases this
    ·rename_i h2
     have h1 : (gl states k).length = (gl states 0).length := by omega
     refine ⟨h1, fun p hp => st_bd (by simpa using h2) (by omega)⟩
structure k6 (names : List ByteArray) (states : List (List Int)) : Prop where
 nm : cH names
 ag : cn states = 0
 len : states.length = names.length
theorem wA {names : List ByteArray} {states : List (List Int)} (h5 : names.length ≤ 5) : cI names states = 0 ↔ k6 names states := by
 unfold cI
 constructor
 ·intro h
  split at h
  ·rename_i h1; exact absurd h h1
  ·rename_i h1
   split at h
   ·cases h
   ·rename_i h2
    split at h
    ·cases h
    ·rename_i h3
     exact ⟨(mJ h5).1 (by omega), by omega, by omega⟩
 ·intro h
  rw [if_neg (by rw [(mJ h5).2 h.nm]; simp), if_neg (by rw [h.ag]; simp), if_neg (by rw [h.len]; simp)]
theorem yO (states : List (List Int)) (p : Nat) {k : Nat} (hk : k < states.length) : gi (cN states p) k = gi (gl states k) p := by simp [gi, cN, gl, hk]
section
variable {t u : ay} {names : List ByteArray} {states : List (List Int)}
theorem lg (hc : k6 names states) (h : kW t names) {p : Nat} (hp : p < (gl states 0).length) : Valid t (fu t names states p) (bE 16) := by
 refine ⟨h.te, Z9, o5 _ _ _ _, ?_⟩
 unfold iy fu
 rw [o5]
 refine any_none fun j hj => ?_
 obtain ⟨v, hv, zN, hv0⟩ := oB hj
 obtain ⟨_, _, hnl, _, _⟩ := aD h.te
 obtain ⟨b, hb, _, e⟩ := IG h (show v < t.ps.length by omega) hv0
 rw [Dl hj, hv, Int.toNat_natCast, e, Int.toNat_natCast, yO _ _ (by rw [hc.len]; exact hb)]
 have := ((Cl hc.ag).2 b (by rw [hc.len]; exact hb)).2 p hp
 rw [jx, Bool.or_eq_false_iff, decide_eq_false_iff_not, decide_eq_false_iff_not]
 omega
theorem of_flat (hn : cH names) {q : RT} (ht : az (flat q) = 0) (hq : (cg q).Perm names) : kW (flat q) names := by
 have h1 : (kV (flat q).ns).Perm names := by
  have := qV ht
  rw [kS] at this
  exact this.symm.trans hq
 refine ⟨ht, by have := hn.hi; omega, hn.IL, by rw [yy, h1.length_eq], fun j hj hj0 => ?_⟩
 obtain ⟨_, _, hnl, _, _⟩ := aD ht
 have hm : gs (flat q).ns j ∈ names := h1.mem_iff.1 (zu.2 ⟨j, by omega, rfl, hj0⟩)
 obtain ⟨b, hb, e⟩ := List.getElem_of_mem hm
 exact ⟨b, hb, by simp [gs, hb] at e ⊢; exact e⟩
theorem o6 (hn : cH names) (ht : t ∈ allT names) : kW t names ∧ ∃ q ∈ aM names, t = flat q := by
 obtain ⟨q, hq, rfl⟩ := List.mem_map.1 ht
 obtain ⟨_, h2, _, _, h5, _⟩ := cQ hn hq
 exact ⟨of_flat hn h5 h2, q, hq, rfl⟩
theorem sD {l : List ay} {k : Nat} (h : k < l.length) : gt l k ∈ l := by simp [gt, h]
theorem IM (hn : cH names) : 0 < (allT names).length := by
 unfold allT
 rw [List.length_map, lN hn]
 split <;> (try split) <;> (try split) <;> omega
end
end
section
open Go.RowKit Go.Deep Go.Sort Go.Shelf Go.Lib
abbrev mq := (Value × Value) × RT
def aK (r : RT) : ByteArray := ⟨(bJ r).toArray⟩
def gX (x : mq) : List Value := [x.1.1, x.1.2, .string (aK x.2)]
def fk (es : List mq) : List Value := es.flatMap gX
def ge (es : List mq) (k : Nat) : mq := es.getD k ((undef, undef), .node ByteArray.empty [])
theorem Kl (es : List mq) (x : mq) : fk (es ++ [x]) = fk es ++ gX x := by unfold fk; rw [List.flatMap_append]; simp
theorem ET : ∀ (es : List mq) (k : Nat), k < es.length → (fk es)[k * 3]? = some (ge es k).1.1 ∧ (fk es)[k * 3 + 1]? = some (ge es k).1.2 ∧ (fk es)[k * 3 + 2]? = some (.string (aK (ge es k).2))
 | [], k, h => absurd h (Nat.not_lt_zero _)
 | x :: es, 0, _ => by simp [fk, gX, ge]
 | x :: es, k + 1, h => by
  have ih := ET es k (by simpa using h)
  have e : (k + 1) * 3 = k * 3 + 1 + 1 + 1 := by omega
  have e2 : ge (x :: es) (k + 1) = ge es k := by simp [ge]
  have e3 : fk (x :: es) = x.1.1 :: x.1.2 :: .string (aK x.2) :: fk es := by simp [fk, gX]
  rw [e2, e3, e]
  simp only [List.getElem?_cons_succ]
  exact ih
def iI (base : Nat) (w : World) (v : Value) (es : List mq) : Prop :=
 w.ownsRow base 96 3 v es.length (fk es) ∧ ∀ x ∈ es, aA (fun b => some b ≠ v.ownBlock) w (.agg #[x.1.1, x.1.2]) (flat x.2)
theorem iI.nil (base : Nat) (w : World) : iI base w (.slice none 0 0) [] := ⟨World.ownsRow_nil _ _ _ _, fun _ h => by cases h⟩
def uV (w : World) (v : Value) (qs : List RT) : Prop :=
 ∃ g cap, ∃ es : List mq, v = .slice (some ⟨g, 0, none⟩) qs.length cap ∧ es.map (·.2) = qs ∧ (∀ k, k < es.length → w.cell? ⟨g, k * 3, none⟩ = some (ge es k).1.1 ∧ w.cell? ⟨g, k * 3 + 1, none⟩ = some (ge es k).1.2 ∧ w.cell? ⟨g, k * 3 + 2, none⟩ = some (.string (aK (ge es k).2))) ∧ ∀ x ∈ es, aA Any w (.agg #[x.1.1, x.1.2]) (flat x.2)
theorem ge_mem {es : List mq} {k : Nat} (h : k < es.length) : ge es k ∈ es := by simp [ge, h]
theorem uV.keep {w w' : World} {v : Value} {qs : List RT} (h : uV w v qs) (hu : Up w w') : uV w' v qs := by
 obtain ⟨g, cap, es, e1, e2, h1, h2⟩ := h
 exact ⟨g, cap, es, e1, e2, fun k hk => ⟨hu.cell (h1 k hk).1, hu.cell (h1 k hk).2.1, hu.cell (h1 k hk).2.2⟩, fun x hx => (h2 x hx).keep (hu.kept _)⟩
section
variable {P : Program} {ops : Array Oper} {rest : List Oper} {o : Oper} {a : Act} {Q : Exit → Act → World → Prop}
theorem FC (W : World) (hgd : o.guard = none) (s x : Operand) (t : TypeId) (ho : o.op = .call { callee := .builtin .append, args := #[s, x], argTypes := #[t, t] })
  (base : Nat) (z : Value) (bytes : Nat) (ht : P.underlying t = some (.slice 96)) (hinfo : (P.info? 96).map (fun i => (i.zero, i.size, i.bytes)) = some (some z, 3, bytes))
  (hz1 : z.cells.size = 3) (mg : bytes ≤ 64) {v : Value} {es : List mq} (hown : iI base W v es) (hs : a.eval s = v) (G : mq)
  (hx : a.eval x = .slice (some ⟨W.heap.size, 0, none⟩) 1 1) (hu : aA (fun b => some b ≠ v.ownBlock) W (.agg #[G.1.1, G.1.2]) (flat G.2)) (n : Nat) (pZ : es.length = n) (hn : n ≤ 1000000) (hbase : base ≤ W.heap.size)
  (h : ∀ g cap w', iI base w' (.slice (some ⟨g, 0, none⟩) (n + 1) cap) (es ++ [G]) → W.grownBy w' v.ownBlock → Below base W w' → wpList P ops Q rest (a.put o.dst (.slice (some ⟨g, 0, none⟩) (n + 1) cap)) w') :
  wpList P ops Q (o :: rest) a (W.alloc (.cells #[G.1.1, G.1.2, .string (aK G.2)] 96)) := by
 subst pZ
 obtain ⟨i, hi, hzz⟩ := Option.map_eq_some_iff.1 hinfo
 simp only [Prod.mk.injEq] at hzz
 obtain ⟨hz, hs1, hb⟩ := hzz
 obtain ⟨hown, hrows⟩ := hown
 have h1 : G.1.1.oneCell' = true ∧ G.1.2.oneCell' = true := by
  obtain ⟨P1, N1, e, hP, hN⟩ := hu
  injection e with e
  have e1 : G.1.1 = P1 ∧ G.1.2 = N1 := by simpa using e
  obtain ⟨p, c, e2, _⟩ := aB.open hP
  obtain ⟨q, d, e3, _⟩ := aB.open hN
  rw [e1.1, e1.2, e2, e3]; exact ⟨rfl, rfl⟩
 refine wpList_append_lies _ hgd s x t ho base 96 i z 3 bytes ht hi hz hs1 hb hz1 (by omega) v es.length (fk es) hs (hown.alloc _) ⟨W.heap.size, 0, none⟩ 1 1 (gX G) hx rfl ?_ (fun q hq => by
  unfold gX at hq
  rcases List.mem_cons.1 hq with e | hq
  ·subst e; exact h1.1
  ·rcases List.mem_cons.1 hq with e | hq
   ·subst e; exact h1.2
   ·rw [List.mem_singleton.1 hq]; rfl) (by omega)
  (by unfold maxLen; omega) ?_ (by simp; omega) _ rfl fun g cap w' h2 h3 h4 _ => ?_
 ·intro j u' hj
  match j with
  | 0 =>
   obtain rfl : G.1.1 = u' := by simpa [gX] using hj
   exact aO W _ _ 0
  | 1 =>
   obtain rfl : G.1.2 = u' := by simpa [gX] using hj
   exact aO W _ _ 1
  | 2 =>
   obtain rfl : Value.string (aK G.2) = u' := by simpa [gX] using hj
   exact aO W _ _ 2
  | j + 3 => simp [gX] at hj
 ·have : (es.length + 1) * bytes ≤ (es.length + 1) * 64 := Nat.mul_le_mul_left _ mg
  omega
 ·have hg := iK h3
  have IP : ∀ b : Nat, some b ≠ v.ownBlock → b < W.heap.size → some b ≠ (Value.slice (some ⟨g, 0, none⟩) (es.length + 1) cap).ownBlock := fun b hb hlt e => by
   simp only [Value.ownBlock, Option.some.injEq] at e
   rcases h4 with h4 | h4
   ·exact hb (by rw [h4, e])
   ·rw [World.size_alloc] at h4; omega
  have hkeep : ∀ {u' : Value} {y' : ay}, aA (fun b => some b ≠ v.ownBlock) W u' y' → aA (fun b => some b ≠ (Value.slice (some ⟨g, 0, none⟩) (es.length + 1) cap).ownBlock) w' u' y' := fun hi' => by
   obtain ⟨P1, N1, e, hP, hN⟩ := hi'
   have k : Kept (fun b => some b ≠ v.ownBlock ∧ b < W.heap.size) W w' := fun b hb hlt => hg.block b hlt hb.1
   exact ⟨P1, N1, e, (aq.keep (hP.sub fun b hb hlt => ⟨hb, hlt⟩) k).sub fun b hb _ => IP b hb.1 hb.2, (ah.keep (hN.sub fun b hb hlt => ⟨hb, hlt⟩) k).sub fun b hb _ => IP b hb.1 hb.2⟩
  refine h g cap w' ⟨by rw [List.length_append, Kl]; exact h2, fun x hx => ?_⟩ hg (Below.grown (Below.refl _ _) hg hbase fun k hk => (World.ownsRow.lt hown k hk).1)
  rcases List.mem_append.1 hx with hx | hx
  ·exact hkeep (hrows x hx)
  ·rw [List.mem_singleton.1 hx]; exact hkeep hu
end
def Cm (x y : mq) : Int := if Lib.compareBytes (bJ x.2) (bJ y.2) < 0 then -1 else if 0 < Lib.compareBytes (bJ x.2) (bJ y.2) then 1 else 0
theorem Cn (x y : mq) : ltOf Cm x y = decide (Lib.compareBytes (bJ x.2) (bJ y.2) < 0) := by
 unfold ltOf Cm
 split
 ·rename_i h; simp [h]
 ·rename_i h
  split <;> simp [h]
theorem M9 : SWO (ltOf Cm) where
 irrefl x := by rw [Cn, vF]; simp
 trans x y z h1 h2 := by
  rw [Cn] at *
  simp only [decide_eq_true_eq] at *
  exact s8 h1 h2
 ntrans x y z h1 h2 := by
  rw [Cn] at *
  simp only [decide_eq_false_iff_not] at *
  intro h3
  by_cases e : Lib.compareBytes (bJ x.2) (bJ y.2) = 0
  ·rw [oC e] at h3; exact h2 h3
  ·have h4 := kN (bJ x.2) (bJ y.2)
   exact h2 (s8 (show Lib.compareBytes (bJ y.2) (bJ x.2) < 0 by omega) h3)
set_option maxHeartbeats 400000 in
theorem SX (x y : mq) (W : World) :
  Calls Tryz.prog 123 #[.agg (gX x).toArray, .agg (gX y).toArray] W fun e w' => e = .returned (.int .i64 (Cm x y)) ∧ ∃ q os, w' = grow (W.drewN q) os := by
 have HC : Hid (Cm x y = if Lib.compareBytes (bJ x.2) (bJ y.2) < 0 then -1 else if 0 < Lib.compareBytes (bJ x.2) (bJ y.2) then 1 else 0) := rfl
 have hkx : (aK x.2).toList = bJ x.2 := by rw [toList_data]; rfl
 have hky : (aK y.2).toList = bJ y.2 := by rw [toList_data]; rfl
 have HL : Hid (Op.bytesLess (aK x.2).toList (aK y.2).toList = decide (Lib.compareBytes (bJ x.2) (bJ y.2) < 0)) := by unfold Hid; rw [hkx, hky]; exact r6 _ _
 have HQ : Hid (((aK x.2).toList == (aK y.2).toList) = decide (Lib.compareBytes (bJ x.2) (bJ y.2) = 0)) := by
  unfold Hid
  rw [hkx, hky]
  by_cases e : bJ x.2 = bJ y.2
  ·rw [e, vF]; simp
  ·rw [beq_eq_false_iff_ne.2 e, decide_eq_false fun q => e (oC q)]
 have HW : Hid (∃ q os, (W.alloc (.cells #[x.1.1, x.1.2, .string (aK x.2)] 96)).alloc (.cells #[y.1.1, y.1.2, .string (aK y.2)] 96) = grow (W.drewN q) os) := ⟨0, _, by rw [alloc_eq_grow, alloc_eq_grow, grow_grow]; rfl⟩
 clear hkx hky
 unfold gX
 generalize Lib.compareBytes (bJ x.2) (bJ y.2) = cb at *
 generalize Cm x y = c at *
 go_enter Tryz.func123, Tryz.ntmps123
 go_wp2_with fail
 ·rename_i hb
  rw [HL.out] at hb
  have hb := of_decide_eq_true hb
  go_ret
  exact ⟨aI (by rw [HC.out, if_pos hb]), HW.out⟩
 ·rename_i hb hc
  rw [HL.out] at hb
  have hb := of_decide_eq_false hb
  have hc : ((aK x.2).toList == (aK y.2).toList) = false := by simpa using hc
  rw [HQ.out] at hc
  have hc := of_decide_eq_false hc
  go_ret
  exact ⟨aI (by rw [HC.out, if_neg hb, if_pos (by omega)]), HW.out⟩
 ·rename_i hb hc
  rw [HL.out] at hb
  have hb := of_decide_eq_false hb
  have hc : ((aK x.2).toList == (aK y.2).toList) = true := by simpa using hc
  rw [HQ.out] at hc
  have hc := of_decide_eq_true hc
  go_ret
  exact ⟨aI (by rw [HC.out, if_neg hb, if_neg (by omega)]), HW.out⟩
theorem Wm {S : Nat → Prop} {w : World} {x : mq} (h : aA S w (.agg #[x.1.1, x.1.2]) (flat x.2)) : x.1.1.oneCell' = true ∧ x.1.2.oneCell' = true := by
 obtain ⟨P1, N1, e, hP, hN⟩ := h
 injection e with e
 have e1 : x.1.1 = P1 ∧ x.1.2 = N1 := by simpa using e
 obtain ⟨p, c, e2, _⟩ := aB.open hP
 obtain ⟨q, d, e3, _⟩ := aB.open hN
 rw [e1.1, e1.2, e2, e3]; exact ⟨rfl, rfl⟩
theorem PY {base : Nat} {w : World} {v : Value} {es : List mq} (h : iI base w v es) (hne : es ≠ []) (hn : es.length ≤ 1000000) :
  Calls Tryz.prog 122 #[v, .func (.func 123) #[] #[]] w fun e w' => e = .returned (.tuple #[]) ∧ w.grownBy w' v.ownBlock ∧ ∃ es' : List mq, es'.Perm es ∧ (es'.map (·.2)).Pairwise eV ∧
   ∃ g cap, v = .slice (some ⟨g, 0, none⟩) es'.length cap ∧ ∀ k, k < es'.length → w'.cell? ⟨g, k * 3, none⟩ = some (ge es' k).1.1 ∧ w'.cell? ⟨g, k * 3 + 1, none⟩ = some (ge es' k).1.2 ∧ w'.cell? ⟨g, k * 3 + 2, none⟩ = some (.string (aK (ge es' k).2)) := by
 obtain ⟨ho, hT⟩ := h
 obtain ⟨x0, hx0⟩ : ∃ x, x ∈ es := List.exists_mem_of_ne_nil _ hne
 have hl0 : 0 < es.length := List.length_pos_iff.2 hne
 letI : Inhabited {x // x ∈ es} := ⟨⟨x0, hx0⟩⟩
 obtain ⟨blk, cap, hv⟩ : ∃ blk cap, v = .slice (some ⟨blk, 0, none⟩) es.length cap := by
  rcases ho.2 with ⟨_, h0⟩ | ⟨g, cap, cur, e, _⟩
  ·exfalso
   have := h0
   omega
  ·exact ⟨g, cap, e⟩
 subst hv
 have hblk : blk < w.heap.size := (World.ownsRow.lt ho blk rfl).2
 have hsize : (es.attach.toArray).size = es.length := by simp
 have Dp : ∀ i, i < es.length → ((es.attach.toArray)[i]!).1 = ge es i := fun i hi => by
  rw [getElem!_pos _ _ (by simpa using hi)]
  simp [ge, hi]
 have hfz : ∀ j, w.frozen? ⟨blk, j, none⟩ = false := fun j => by
  rcases ho.2 with ⟨e, _⟩ | ⟨g', cap', cur, hs', _, hc', _⟩
  ·cases e
  ·injection hs' with hs1
   injection hs1 with hs1
   injection hs1 with hs1
   subst hs1
   simp [World.frozen?, hc']
 have hH : HoldsK (fun x : {x // x ∈ es} => gX x.1) 3 w blk 0 es.attach.toArray := by
  intro j hj
  rw [size_flatK, hsize] at hj
  refine ⟨?_, by rw [Nat.zero_add]; exact hfz j⟩
  rw [get_flatK _ _ _ _ (by rw [hsize]; exact hj), Nat.zero_add, ho.cellAt j hj]
  have hi : j / 3 < es.length := by omega
  obtain ⟨c1, c2, c3⟩ := ET es (j / 3) hi
  show _ = some ((gX ((es.attach.toArray)[j / 3]!).1)[j % 3]!)
  rw [Dp _ hi]
  have h3 : j % 3 = 0 ∨ j % 3 = 1 ∨ j % 3 = 2 := by omega
  rcases h3 with h3 | h3 | h3
  ·rw [h3, show (fk es)[j]? = (fk es)[j / 3 * 3]? by congr 1; omega, c1]; simp [gX]
  ·rw [h3, show (fk es)[j]? = (fk es)[j / 3 * 3 + 1]? by congr 1; omega, c2]; simp [gX]
  ·rw [h3, show (fk es)[j]? = (fk es)[j / 3 * 3 + 2]? by congr 1; omega, c3]; simp [gX]
 have hgb : ∀ (m : Nat) (os : Array Obj) (dk : Array {x // x ∈ es}), w.grownBy (sortWorldK (fun x : {x // x ∈ es} => gX x.1) 3 w blk 0 m dk os) (some blk) := fun m os dk => ⟨rfl, rfl, rfl, size_sortWorldK_c _ _ _ _ _ _ _ _, fun b hb hne => dX (enc := id) (fun e => hne (by rw [e])) hb⟩
 have hcmp : CmpLays Tryz.prog 123 #[] (fun x : {x // x ∈ es} => gX x.1) 3 (fun x y => Cm x.1 y.1) blk 0 es.attach.toArray.size w := fun m os dk _ x y => SX x.1 y.1 _
 have hcon := AnyQ.slices_SortFunc Tryz.sortEnt 3 Tryz.isAgg96 Tryz.sizeOf96 (fun x : {x // x ∈ es} => gX x.1) (fun _ => rfl) (fun x u hu => by
   obtain ⟨o1, o2⟩ := Wm (hT x.1 x.2)
   unfold gX at hu
   rcases List.mem_cons.1 hu with e | hu
   ·subst e; exact o1
   ·rcases List.mem_cons.1 hu with e | hu
    ·subst e; exact o2
    ·rw [List.mem_singleton.1 hu]; rfl) (fun x y => Cm x.1 y.1) ⟨fun x => M9.irrefl x.1, fun x y z => M9.trans x.1 y.1 z.1, fun x y z => M9.ntrans x.1 y.1 z.1⟩ 123 #[] blk 0 cap es.attach.toArray w (enters_of Tryz.func123 (by kernel_rfl) rfl) hcmp hH hblk (by rw [hsize]; omega)
 rw [hsize] at hcon
 refine hcon.mono fun e w' ⟨he, d', m, os, IQ, Zv, hw⟩ => ⟨he, by rw [hw]; exact hgb m os d', d'.toList.map (·.1), ?_, ?_, blk, cap, ?_, ?_⟩
 ·obtain ⟨hsz, _, nD⟩ := IQ
  have e1 : d'.extract 0 es.length = d' := by rw [← hsize, ← hsz]; exact Array.extract_size
  have e2 : es.attach.toArray.extract 0 es.length = es.attach.toArray := by rw [← hsize]; exact Array.extract_size
  rw [e1, e2] at nD
  have h2 := nD.map (fun (x : {x // x ∈ es}) => x.1)
  rw [List.toList_toArray, List.attach_map_subtype_val] at h2
  exact h2
 ·obtain ⟨hsz, _, _⟩ := IQ
  rw [hsize] at hsz
  rw [List.map_map, List.pairwise_map, List.pairwise_iff_getElem]
  intro i j hi hj hij
  have hi' : i < d'.size := by simpa using hi
  have hj' : j < d'.size := by simpa using hj
  have h3 := Zv i j (Nat.zero_le _) hij (by omega)
  rw [getElem!_pos d' j hj', getElem!_pos d' i hi'] at h3
  have h4 : ltOf Cm (d'[j]'hj').1 (d'[i]'hi').1 = false := h3
  rw [Cn, decide_eq_false_iff_not] at h4
  show Lib.compareBytes (bJ (d'.toList[i]'(by simpa using hi)).1.2) (bJ (d'.toList[j]'(by simpa using hj)).1.2) ≤ 0
  rw [Array.getElem_toList, Array.getElem_toList]
  have := kN (bJ (d'[j]'hj').1.2) (bJ (d'[i]'hi').1.2)
  omega
 ·have : d'.size = es.length := by rw [IQ.1, hsize]
  simp [this]
 ·intro k hk
  have hk' : k < d'.size := by simpa using hk
  have hHd := holdsK_sortWorldK_c (fun x : {x // x ∈ es} => gX x.1) 3 w blk 0 es.attach.toArray d' m os hH hblk IQ.1
  have hge : ge (d'.toList.map (·.1)) k = (d'[k]!).1 := by
   rw [getElem!_pos d' k hk']
   simp [ge, hk']
  have c0 := (hHd.cell (i := k) (c := 0) hk' (by decide)).1
  have c1 := (hHd.cell (i := k) (c := 1) hk' (by decide)).1
  have c2 := (hHd.cell (i := k) (c := 2) hk' (by decide)).1
  rw [Nat.zero_add] at c0 c1 c2
  rw [hge, hw]
  exact ⟨c0, c1, c2⟩
end
section
open Go.RowKit Go.Deep
def LA (w : World) (t : ay) (st : List Int) (cs : List (List Int)) (e : Ending) (w' : World) : Prop :=
 ∃ tb tof tcap rq rc, e = .returned (.slice (some ⟨tb, tof, none⟩) t.ps.length tcap) ∧ w'.cell? ⟨tb, tof, none⟩ = some (.slice rq cs.length rc) ∧ aq Any w' (.slice rq cs.length rc) (aP t st cs 0) ∧ Up w w'
theorem tb1 {w w' : World} {t : ay} {st : List Int} {cs : List (List Int)} {e : Ending} (hv : Valid t st cs) (h : BB w (nC t st cs) e w') : LA w t st cs e w' := by
 obtain ⟨hb, v, rfl, hr⟩ := h
 have hp := (aD hv.tree).1
 obtain ⟨p, cap, rfl, _, H⟩ := eR hr
 obtain ⟨b, off, q, c, rfl, hc, hi⟩ := H 0 (by rw [Gf]; exact hp)
 rw [VQ _ _ _ hp] at hc hi
 rw [fH] at hc hi
 rw [Gf]
 exact ⟨b, off, cap, q, c, rfl, by rw [Nat.add_zero] at hc; exact hc, hi, hb⟩
end
section
open Go.RowKit Go.Deep
def jL (s : ByteArray) : ay := ⟨[-1], [s]⟩
theorem one_at (w : World) (s : ByteArray) : aA Any ((w.alloc (.cells #[.int .i64 (-1)] 3)).alloc (.cells #[.string s] 9)) (.agg #[.slice (some ⟨w.heap.size, 0, none⟩) 1 1, .slice (some ⟨w.heap.size + 1, 0, none⟩) 1 1]) (jL s) := by
 refine ⟨_, _, rfl, ⟨_, 1, rfl, Nat.le_refl _, .inr ⟨_, 0, rfl, trivial, fun k hk => ?_⟩⟩, ⟨_, 1, rfl, Nat.le_refl _, .inr ⟨_, 0, rfl, trivial, fun k hk => ?_⟩⟩⟩
 ·obtain rfl : k = 0 := by have : (jL s).ps.length = 1 := rfl; omega
  refine (Up.alloc (w.alloc (.cells #[.int .i64 (-1)] 3)) _).cell ?_
  have h := World.alloc_heap_new w (Obj.cells #[.int .i64 (-1)] 3)
  simp only [World.cell?, h]; rfl
 ·obtain rfl : k = 0 := by have : (jL s).ns.length = 1 := rfl; omega
  have h := World.alloc_heap_new (w.alloc (.cells #[.int .i64 (-1)] 3)) (Obj.cells #[.string s] 9)
  rw [World.size_alloc] at h
  simp only [World.cell?, h]; rfl
theorem Wn (s : ByteArray) : (az (jL s) == 0) = aY s.data.toList := by
 have h1 : isIn (jL s).ps 0 = false := by
  unfold isIn DI jL; simp
 have h2 : dm (jL s).ns 0 = false := by unfold dm; simp
 have h3 : fZ (jL s).ps = true := by unfold fZ jL; simp [jb, gi]
 have h4 : gs (jL s).ns 0 = s := rfl
 unfold az
 rw [if_neg (by simp [jL]), if_neg (by simp [jL]), if_neg (by simp [jL]), if_pos h3]
 show (firstNZ (iu (jL s).ps (jL s).ns) 1 == 0) = _
 simp only [firstNZ, if_true]
 unfold iu
 rw [h1, h2, h4]
 cases aY s.data.toList <;> simp
end
section
open Go.RowKit Go.Deep
theorem SY (names : List ByteArray) (k : Nat) : ((List.range k).any fun j => decide (gs names k = gs names j)) = dm names k := by
 unfold dm
 congr 1; funext j
 by_cases e : gs names j = gs names k
 ·rw [decide_eq_true e, decide_eq_true e.symm]
 ·rw [decide_eq_false e, decide_eq_false fun q => e q.symm]
end
end Go.Proofs.YthgabkgmkolobaaGreat
