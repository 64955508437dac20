/- Maps of pointers: an entry laid or replaced, an entry read or absent; an append inside a .. -/
import Derived.Test.YteegefnjnikngaaGreatQ8
import Derived.Test.YteegefnjnikngaaGreatQ12
import Derived.Deep.AppendLies
import Derived.Test.YteegefnjnikngaaGreatQ6
import Derived.Test.YteegefnjnikngaaGreatQ1
import Derived.Test.YteegefnjnikngaaGreatQ7
set_option maxRecDepth 100000
namespace Go.Proofs.YteegefnjnikngaaGreat
section
open Go.RowKit Go.Deep
def qO (l : List (Option Nat × Value)) (k : Option Nat) (v : Value) : List (Option Nat × Value) := if (l.lookup k).isNone then l ++ [(k, v)] else l.map fun x => if x.1 = k then (k, v) else x
section
variable {P : Program} {w : World}
theorem Na (k : Option Nat) : Instr.sameBits 10000 (pk k) (pk k) = true := by
 cases k <;> simp [pk, Instr.sameBits]
theorem Kq (k : Option Nat) : (Instr.keyThatStays (pk k) (pk k)).run P w = .ok (pk k) w := by
 unfold Instr.keyThatStays
 rw [if_pos (Na k)]; rfl
theorem Dm {t e : TypeId} (ht : P.underlying t = some (.pointer e)) (he : ∀ w, (sizeOf e).run P w = .ok 3 w) {k : Option Nat} (hk : eu w k) : ∀ (es : List MapEntry) (l : List (Option Nat × Value)) (i : Nat),
  es.map (fun x => (x.key, x.val)) = l.map (fun x => (pk x.1, x.2)) → (∀ x ∈ l, eu w x.1) → (l.lookup k).isSome →
   ∃ j v, l.lookup k = some v ∧ (l[j]?).map (·.1) = some k ∧ (∀ m, m < j → (l[m]?).map (·.1) ≠ some k) ∧ (Instr.findAsking t (pk k) es i).run P w = .ok (some (i + j, v)) w := by
 intro es
 induction es with
 | nil =>
  intro l i hl _ hs
  cases l with
  | nil => cases hs
  | cons => cases hl
 | cons x es ih =>
  intro l i hl hok hs
  cases l with
  | nil => cases hl
  | cons y l =>
   simp only [List.map_cons, List.cons.injEq, Prod.mk.injEq] at hl
   obtain ⟨⟨h1, h2⟩, h3⟩ := hl
   have heq := Gg (w := w) ht he hk (hok y (by simp))
   rw [← h1] at heq
   by_cases h : k = y.1
   ·subst h
    refine ⟨0, y.2, ?_, rfl, fun m hm => absurd hm (Nat.not_lt_zero _), ?_⟩
    ·obtain ⟨y1, y2⟩ := y; simp
    ·simp [Instr.findAsking, heq, h2]
   ·have hb : (k == y.1) = false := by simpa using h
    have hs' : (l.lookup k).isSome := by
     obtain ⟨y1, y2⟩ := y
     rw [List.lookup_cons, hb] at hs; exact hs
    obtain ⟨j, v, h4, h5, h6, h7⟩ := ih l (i + 1) h3 (fun z hz => hok z (by simp [hz])) hs'
    refine ⟨j + 1, v, ?_, by simpa using h5, fun m hm => ?_, ?_⟩
    ·obtain ⟨y1, y2⟩ := y; rw [List.lookup_cons, hb]; exact h4
    ·cases m with
     | zero => simpa using fun e => h e.symm
     | succ m => simpa using h6 m (by omega)
    ·simp [Instr.findAsking, heq, h, h7]; omega
def su (l : List (Option Nat × Value)) : Prop := (l.map (·.1)).Nodup
theorem yA {l : List (Option Nat × Value)} {k : Option Nat} : l.lookup k = none ↔ k ∉ l.map (·.1) := by
 induction l with
 | nil => simp
 | cons y l ih =>
  obtain ⟨y1, y2⟩ := y
  rw [List.lookup_cons]
  by_cases h : k = y1
  ·subst h; simp
  ·have hb : (k == y1) = false := by simpa using h
   rw [hb]; simp only [List.map_cons, List.mem_cons, not_or]
   exact ⟨fun h2 => ⟨h, ih.1 h2⟩, fun h2 => ih.2 h2.2⟩
theorem Kr (l : List (Option Nat × Value)) (k : Option Nat) (v : Value) : (qO l k v).map (·.1) = if (l.lookup k).isNone then l.map (·.1) ++ [k] else l.map (·.1) := by
 unfold qO
 split
 ·simp
 ·rw [List.map_map]
  refine List.map_congr_left fun x _ => ?_
  show (if x.1 = k then (k, v) else x).1 = x.1
  split
  ·rename_i h; exact h.symm
  ·rfl
theorem Ks {l : List (Option Nat × Value)} (h : su l) (k : Option Nat) (v : Value) : su (qO l k v) := by
 unfold su
 rw [Kr]
 split
 ·rename_i h2
  have h3 : k ∉ l.map (·.1) := yA.1 (by simpa using h2)
  rw [List.nodup_append]
  refine ⟨h, by simp, fun a ha b hb => ?_⟩
  have : b = k := by simpa using hb
  subst this
  exact fun e => h3 (by rw [← e]; exact ha)
 ·exact h
theorem FK {l : List (Option Nat × Value)} (h : su l) {k : Option Nat} (v : Value) {j : Nat} (hj : (l[j]?).map (·.1) = some k) : (l.map fun x => if x.1 = k then (k, v) else x) = l.set j (k, v) := by
 apply List.ext_getElem?
 intro m
 have hjl : j < l.length := by
  cases hlj : l[j]? with
  | none => rw [hlj] at hj; cases hj
  | some y => exact (List.getElem?_eq_some_iff.1 hlj).1
 rw [List.getElem?_map, List.getElem?_set]
 by_cases e : j = m
 ·subst e
  rw [if_pos rfl, if_pos hjl]
  rw [List.getElem?_eq_getElem hjl] at hj ⊢
  have h3 : (l[j]).1 = k := by simpa using hj
  simp [h3]
 ·rw [if_neg e]
  cases hm : l[m]? with
  | none => rfl
  | some y =>
   have hml := (List.getElem?_eq_some_iff.1 hm).1
   have hne : y.1 ≠ k := fun h4 => by
    have h5 : (l.map (·.1))[m]? = (l.map (·.1))[j]? := by rw [List.getElem?_map, List.getElem?_map, hm, hj]; simp [h4]
    have h6 : m < (l.map (·.1)).length := by simpa using hml
    have h7 : j < (l.map (·.1)).length := by simpa using hjl
    rw [List.getElem?_eq_getElem h6, List.getElem?_eq_getElem h7] at h5
    injection h5 with h5
    exact e ((List.getElem_inj h).1 h5).symm
   simp [hne]
theorem Dn {mt t e el : TypeId} (hm : P.underlying mt = some (.map t el)) (ht : P.underlying t = some (.pointer e)) (he : ∀ w, (sizeOf e).run P w = .ok 3 w) {b : Nat} {l : List (Option Nat × Value)} (h : gQ w b l) (hu : su l) {k : Option Nat} (v : Value)
  (hk : eu w k) (hok : ∀ x ∈ l, eu w x.1) :
  ∃ w', (Instr.mapUpdate mt (.map (some b)) (pk k) v).run P w = .ok () w' ∧ gQ w' b (qO l k v) ∧ w'.heap.size = w.heap.size ∧ w'.os = w.os ∧ w'.tape = w.tape ∧ w'.output = w.output ∧ ∀ j, j ≠ b → w'.heap[j]? = w.heap[j]? := by
 cases hl0 : l.lookup k with
 | none =>
  obtain ⟨w', h1, h2, h3⟩ := CX hm ht he h v hk hok hl0
  refine ⟨w', h1, ?_, h3⟩
  unfold qO; rw [hl0]; exact h2
 | some v0 =>
  obtain ⟨es, clock, hb, hl⟩ := h
  have aS := run_underlying (w := w) hm
  have aF := run_underlying (w := w) ht
  have hg := MapKept.run_getObj_map (P := P) hb
  obtain ⟨j, v', h4, h5, h6, h7⟩ := Dm ht he hk es.toList l 0 hl hok (by rw [hl0]; rfl)
  have hne : es.toList ≠ [] := fun h0 => by rw [h0] at hl; cases l with | nil => cases hl0 | cons => cases hl
  have hfk : (Instr.findKey t (pk k) es.toList).run P w = .ok (some (j, v')) w := by
   cases hes : es.toList with
   | nil => exact absurd hes hne
   | cons x xs =>
    have hn : Instr.findNow (.pointer e) (pk k) (x :: xs) 0 = none := by simp [Instr.findNow, Instr.sameNow]
    rw [hes] at h7
    simp [Instr.findKey, aF, hn, h7]
  have hkey : ((es[j]?).map (·.key)) = some (pk k) := by
   have h8 := congrArg (fun q => (q[j]?).map (·.1)) hl
   simp only [List.getElem?_map, Option.map_map] at h8
   have h9 : (l[j]?).map (fun x => pk x.1) = some (pk k) := by
    cases hlj : l[j]? with
    | none => rw [hlj] at h5; cases h5
    | some y => rw [hlj] at h5; simp at h5; simp [h5]
   have h10 : (es.toList[j]?).map (·.key) = (l[j]?).map (fun x => pk x.1) := h8
   rw [← Array.getElem?_toList, h10, h9]
  have hst : (Instr.keyThatStays (((es[j]?).map (·.key)).getD (pk k)) (pk k)).run P w = .ok (pk k) w := by rw [hkey]; exact Kq k
  have hs := MapKept.run_setObj_map (P := P) (.map (es.modify j fun e => { e with key := pk k, val := v }) clock) hb
  refine ⟨{ w with heap := w.heap.setIfInBounds b (.map (es.modify j fun e => { e with key := pk k, val := v }) clock) }, by simp [Instr.mapUpdate, aS, hg, run_checkKey ht, hfk, hst, hs], ⟨es.modify j fun e => { e with key := pk k, val := v }, clock, ?_, ?_⟩, by simp, rfl, rfl, rfl, fun m hm => ?_⟩
  ·have := (Array.getElem?_eq_some_iff.1 hb).1
   simp [this]
  ·have hpl : qO l k v = l.set j (k, v) := by
    unfold qO; rw [hl0]
    exact FK hu v h5
   rw [hpl]
   apply List.ext_getElem?
   intro m
   have h8 := congrArg (fun q => q[m]?) hl
   simp only [List.getElem?_map] at h8
   rw [List.getElem?_map, List.getElem?_map, Array.getElem?_toList, Array.getElem?_modify, List.getElem?_set]
   have hjl : j < l.length := by
    cases hlj : l[j]? with
    | none => rw [hlj] at h5; cases h5
    | some y => exact (List.getElem?_eq_some_iff.1 hlj).1
   have Te : j < es.size := by have := congrArg List.length hl; simp at this; omega
   by_cases e : j = m
   ·subst e
    rw [if_pos rfl, if_pos rfl, if_pos hjl, Array.getElem?_eq_getElem Te]
    rfl
   ·rw [if_neg e, if_neg e, ← Array.getElem?_toList]; exact h8
  ·simp [Ne.symm hm]
theorem Kt {mt t e el : TypeId} (hm : P.underlying mt = some (.map t el)) (ht : P.underlying t = some (.pointer e)) (he : ∀ w, (sizeOf e).run P w = .ok 3 w) {z : Value} (hz : ∀ w, (zeroValue el).run P w = .ok z w) {b : Nat} {l : List (Option Nat × Value)} (h : gQ w b l) {k : Option Nat}
  (hk : eu w k) (hok : ∀ x ∈ l, eu w x.1) : (Instr.lookup mt (.map (some b)) (pk k) false).run P w = .ok ((l.lookup k).getD z) w := by
 cases hl0 : l.lookup k with
 | some v => exact sj hm ht he h hk hok hl0
 | none =>
  obtain ⟨es, clock, hb, hl⟩ := h
  have hu := run_underlying (w := w) hm
  have hg := MapKept.run_getObj_map (P := P) hb
  rcases run_findKey ht he hk es.toList l hl hok with ⟨h1, h2⟩ | ⟨j, v', h1, h2⟩
  ·simp [Instr.lookup, hu, hg, run_checkKey ht, h2, hz]
  ·rw [h1] at hl0; cases hl0
end
section
variable {F : Fence} {nF : Nat} {P : Program} {ops : Array Oper} {o : Oper} {a : Act} {w : World} {K : Act → World → Prop} {Q : Exit → Act → World → Prop} {E : Prop}
theorem jy (hgd : o.guard = none) (s x : Operand) (t : TypeId) (ho : o.op = .call { callee := .builtin .append, args := #[s, x], argTypes := #[t, t] })
  (base : Nat) (e : TypeId) (z : Value) (bytes : Nat) (ht : P.underlying t = some (.slice e)) (hinfo : (P.info? e).map (fun i => (i.zero, i.size, i.bytes)) = some (some z, 1, bytes))
  (hz1 : z.cells.size = 1) (kY : bytes ≤ 64) {v : Value} {vs : List Value} (hs : a.eval s = v) (hown : az base e w v vs) (u : Value) (B : Nat)
  (hx : a.eval x = .slice (some ⟨B, 0, none⟩) 1 1) (hB : w.cell? ⟨B, 0, none⟩ = some u) (h1 : u.oneCell' = true) (hn : vs.length ≤ 1000000) (hbase : base ≤ w.heap.size)
  (h : ∀ g cap w', az base e w' (.slice (some ⟨g, 0, none⟩) (vs.length + 1) cap) (vs ++ [u]) → w.grownBy w' v.ownBlock → (v.ownBlock = some g ∨ g = w.heap.size) → Below base w w' → K (a.put o.dst (.slice (some ⟨g, 0, none⟩) (vs.length + 1) cap)) w') :
  if Region.wanted o (yielded ops a.tmps) = true then Oper.wpIn F nF P o a w K Q else E := by
 have hw : Region.wanted o (yielded ops a.tmps) = true := by simp [Region.wanted, hgd]
 rw [if_pos hw]
 obtain ⟨i, hi, hzz⟩ := Option.map_eq_some_iff.1 hinfo
 simp only [Prod.mk.injEq] at hzz
 obtain ⟨hz, hs1, hb⟩ := hzz
 obtain ⟨g, cap, w', hr, h2, h3, h4, _⟩ := run_append_lies (P := P) w t o.type base e i z 1 bytes ht hi hz hs1 hb hz1 (by omega) v vs.length vs hown ⟨B, 0, none⟩ 1 1 [u] rfl (fun j u' hj => by
  cases j with
  | zero => (simp at hj; subst hj; simpa [Addr.add] using hB)
  | succ j => simp at hj) (by simpa using h1) (by omega) (by unfold maxLen; omega) (by have : (vs.length + 1) * bytes ≤ (vs.length + 1) * 64 := Nat.mul_le_mul_left _ kY; omega) hbase _ rfl
 unfold Oper.wpIn
 refine ⟨by simp [Oper.about, ho, resolve, Target.leads, Sem.run_pure], ?_⟩
 rw [Oper.semAt_plain F _ _ (by rw [ho]; intro c hc'; cases hc')]
 simp [execOp, ho, resolve, invoke, builtin, hs, hx, hr, Result.andThen]
 exact h g cap w' (by unfold az; rw [List.length_append]; exact h2) h3 h4 (hown.cQ h3 hbase)
end
end
section
open Go.RowKit Go.Shelf Go.Deep
attribute [local go_sem] Oper.semAt_some
end
section
open Go.RowKit Go.Deep
def QD (w w' : World) : Prop := ∃ n, w' = w.drewN n
theorem QD.refl (w : World) : QD w w := ⟨0, rfl⟩
theorem QD.drewN {w w' : World} (h : QD w w') (n : Nat) : QD w (w'.drewN n) := by
 obtain ⟨m, rfl⟩ := h; exact ⟨m + n, by rw [World.drewN_drewN]⟩
theorem QD.kept {w w' : World} (h : QD w w') (S : Nat → Prop) : Kept S w w' := by
 obtain ⟨m, rfl⟩ := h; exact fun _ _ _ => rfl
theorem QD.up {w w' : World} (h : QD w w') : Up w w' := by
 obtain ⟨m, rfl⟩ := h; exact Up.drewN w m
end
section
open Go.RowKit Go.Deep
structure AV where
 un : Int
 st : Int
 src : List Int
end
end Go.Proofs.YteegefnjnikngaaGreat
