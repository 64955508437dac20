/- Nodes that point at each other: how a forest lies in memory, and what keeps it. Maps .. -/
import Derived.Test.YtpnmblnahjjmhaaGreatQ3
import Derived.MapKept
import Derived.Laws.Pointers
import Derived.Lib.Bytealg
import Derived.Sort.Statements
import Derived.Test.YtpnmblnahjjmhaaGreatQ1
import Derived.Shelf.SlGeneric
import Derived.Shelf.SlSortCmp.NoneTotal
import Derived.Test.YtpnmblnahjjmhaaGreatProg
set_option maxRecDepth 100000
namespace Go.Proofs.YtpnmblnahjjmhaaGreat
section
open Go.RowKit Go.Deep
structure aT where
 nm : Nat → ByteArray
 old : Nat → Int
 kids : Nat → List Nat
def bC (A : Nat → Nat) (k : Nat) : Value := .pointer (some ⟨A k, 0, none⟩)
def upd {α : Type} (f : Nat → α) (k : Nat) (x : α) (i : Nat) : α := if i = k then x else f i
theorem upd_same {α : Type} (f : Nat → α) (k : Nat) (x : α) : upd f k x k = x := by simp [upd]
theorem upd_ne {α : Type} (f : Nat → α) {k i : Nat} (x : α) (h : i ≠ k) : upd f k x i = f i := by simp [upd, h]
structure bB (base n : Nat) (A : Nat → Nat) (kv : Nat → Value) (F : aT) (w : World) : Prop where
 node : ∀ i, i < n → w.heap[A i]? = some (.cells #[.string (F.nm i), kv i, .int .i64 (F.old i)] 140 (0, 0))
 lo : ∀ i, i < n → base ≤ A i
 inj : ∀ i j, i < n → j < n → A i = A j → i = j
 own : ∀ i, i < n → ah base 137 w (kv i) ((F.kids i).map (bC A))
 apart : ∀ i j, i < n → j < n → (kv i).ownBlock ≠ some (A j)
 alone : ∀ i j b, i < n → j < n → (kv i).ownBlock = some b → (kv j).ownBlock = some b → i = j
 kid : ∀ i, i < n → ∀ k ∈ F.kids i, k < n
theorem ah.same {base : Nat} {e : TypeId} {w w' : World} {v : Value} {vs : List Value} (h : ah base e w v vs) (k : ∀ b, v.ownBlock = some b → w'.heap[b]? = w.heap[b]?) : ah base e w' v vs := by
 obtain ⟨hl, h | ⟨g, cap, cur, rfl, hg, hc, hr⟩⟩ := h
 ·exact ⟨hl, .inl h⟩
 ·exact ⟨hl, .inr ⟨g, cap, cur, rfl, hg, by rw [k g rfl]; exact hc, hr⟩⟩
theorem ah.mJ {base base' : Nat} {e : TypeId} {w : World} {v : Value} {vs : List Value} (h : ah base e w v vs) (hb : base' ≤ base) : ah base' e w v vs := by
 obtain ⟨hl, h | ⟨g, cap, cur, rfl, hg, hc, hr⟩⟩ := h
 ·exact ⟨hl, .inl h⟩
 ·exact ⟨hl, .inr ⟨g, cap, cur, rfl, Nat.le_trans hb hg, hc, hr⟩⟩
section
variable {base n : Nat} {A : Nat → Nat} {kv : Nat → Value} {F : aT} {w w' : World}
theorem bB.lt (h : bB base n A kv F w) {i : Nat} (hi : i < n) : A i < w.heap.size := (Array.getElem?_eq_some_iff.1 (h.node i hi)).1
theorem bB.gL (h : bB base n A kv F w) {i b : Nat} (hi : i < n) (hb : (kv i).ownBlock = some b) : base ≤ b ∧ b < w.heap.size := ax (h.own i hi) hb
theorem bB.name (h : bB base n A kv F w) {i : Nat} (hi : i < n) : w.cell? ⟨A i, 0, none⟩ = some (.string (F.nm i)) := by simp [World.cell?, h.node i hi]
theorem bB.pZ (h : bB base n A kv F w) {i : Nat} (hi : i < n) : w.cell? ⟨A i, 1, none⟩ = some (kv i) := by simp [World.cell?, h.node i hi]
theorem bB.thaw (h : bB base n A kv F w) {i : Nat} (hi : i < n) (o : Nat) : w.frozen? ⟨A i, o, none⟩ = false := by simp [World.frozen?, h.node i hi]
theorem bB.same (h : bB base n A kv F w) (ha : ∀ i, i < n → w'.heap[A i]? = w.heap[A i]?) (hk : ∀ i b, i < n → (kv i).ownBlock = some b → w'.heap[b]? = w.heap[b]?) : bB base n A kv F w' :=
 ⟨fun i hi => by rw [ha i hi]; exact h.node i hi, h.lo, h.inj, fun i hi => (h.own i hi).same fun b hb => hk i b hi hb, h.apart, h.alone, h.kid⟩
theorem bB.kept (h : bB base n A kv F w) (k : ∀ b, base ≤ b → b < w.heap.size → w'.heap[b]? = w.heap[b]?) : bB base n A kv F w' :=
 h.same (fun i hi => k _ (h.lo i hi) (h.lt hi)) (fun _ _ hi hb => k _ (h.gL hi hb).1 (h.gL hi hb).2)
theorem bB.up (h : bB base n A kv F w) (k : Up w w') : bB base n A kv F w' := h.kept fun b _ hb => Below.block k b hb
theorem bB.put (h : bB base n A kv F w) {k : Nat} (hk : k < n) {v : Value} {ks : List Nat}
  (ha : ∀ i, i < n → i ≠ k → w'.heap[A i]? = w.heap[A i]?) (hn : w'.heap[A k]? = some (.cells #[.string (F.nm k), v, .int .i64 (F.old k)] 140 (0, 0)))
  (hv : ah base 137 w' v (ks.map (bC A))) (ho : ∀ i b, i < n → i ≠ k → (kv i).ownBlock = some b → w'.heap[b]? = w.heap[b]?)
  (hb : ∀ b, v.ownBlock = some b → (kv k).ownBlock = some b ∨ w.heap.size ≤ b) (hks : ∀ j ∈ ks, j < n) : bB base n A (upd kv k v) { F with kids := upd F.kids k ks } w' := by
 refine ⟨fun i hi => ?_, h.lo, h.inj, fun i hi => ?_, fun i j hi hj => ?_, fun i j b hi hj h1 h2 => ?_, fun i hi => ?_⟩
 ·by_cases e : i = k
  ·subst e; rw [upd_same]; exact hn
  ·rw [upd_ne _ _ e, ha i hi e]; exact h.node i hi
 ·by_cases e : i = k
  ·subst e; simp only [upd_same]; exact hv
  ·simp only [upd_ne _ _ e]; exact (h.own i hi).same fun b hb => ho i b hi e hb
 ·by_cases e : i = k
  ·subst e; rw [upd_same]; intro h3
   rcases hb _ h3 with h4 | h4
   ·exact h.apart i j hi hj h4
   ·exact absurd (h.lt hj) (by omega)
  ·rw [upd_ne _ _ e]; exact h.apart i j hi hj
 ·by_cases e1 : i = k
  ·by_cases e2 : j = k
   ·rw [e1, e2]
   ·subst e1
    rw [upd_same] at h1
    rw [upd_ne _ _ e2] at h2
    rcases hb _ h1 with h4 | h4
    ·exact h.alone i j b hi hj h4 h2
    ·exact absurd (h.gL hj h2).2 (by omega)
  ·by_cases e2 : j = k
   ·subst e2
    rw [upd_same] at h2
    rw [upd_ne _ _ e1] at h1
    rcases hb _ h2 with h4 | h4
    ·exact h.alone i j b hi hj h1 h4
    ·exact absurd (h.gL hi h1).2 (by omega)
   ·rw [upd_ne _ _ e1] at h1
    rw [upd_ne _ _ e2] at h2
    exact h.alone i j b hi hj h1 h2
 ·by_cases e : i = k
  ·subst e; simp only [upd_same]; exact hks
  ·simp only [upd_ne _ _ e]; exact h.kid i hi
theorem bB.zV (h : bB base n A kv F w) (hb : base ≤ w.heap.size) (nm : ByteArray) (old : Int) :
  bB base (n + 1) (upd A n w.heap.size) (upd kv n (.slice none 0 0)) ⟨upd F.nm n nm, upd F.old n old, upd F.kids n []⟩ (w.alloc (.cells #[.string nm, .slice none 0 0, .int .i64 old] 140)) := by
 have hne : ∀ i, i < n → i ≠ n := fun i hi => by omega
 have hmap : ∀ i, i < n → (F.kids i).map (bC (upd A n w.heap.size)) = (F.kids i).map (bC A) := fun i hi => by
  refine List.map_congr_left fun k hk => ?_
  unfold bC; rw [upd_ne _ _ (hne k (h.kid i hi k hk))]
 have l5 : ∀ i, i < n + 1 → i < n ∨ i = n := fun i hi => by omega
 refine ⟨fun i hi => ?_, fun i hi => ?_, fun i j hi hj e => ?_, fun i hi => ?_, fun i j hi hj => ?_, fun i j b hi hj h1 h2 => ?_, fun i hi => ?_⟩
 ·rcases l5 i hi with hi | rfl
  ·simp only [upd_ne _ _ (hne i hi)]; rw [blk_alloc_lt _ _ _ (h.lt hi)]; exact h.node i hi
  ·simp only [upd_same]; exact blk_alloc_new _ _
 ·rcases l5 i hi with hi | rfl
  ·rw [upd_ne _ _ (hne i hi)]; exact h.lo i hi
  ·rw [upd_same]; exact hb
 ·rcases l5 i hi with hi | rfl <;> rcases l5 j hj with hj | rfl
  ·rw [upd_ne _ _ (hne i hi), upd_ne _ _ (hne j hj)] at e; exact h.inj i j hi hj e
  ·rw [upd_ne _ _ (hne i hi), upd_same] at e; have := h.lt hi; omega
  ·rw [upd_same, upd_ne _ _ (hne j hj)] at e; have := h.lt hj; omega
  ·rfl
 ·rcases l5 i hi with hi | rfl
  ·simp only [upd_ne _ _ (hne i hi)]; rw [hmap i hi]; exact (h.own i hi).alloc _
  ·simp only [upd_same]; exact ah.nil _ _ _
 ·rcases l5 i hi with hi | rfl
  ·rw [upd_ne _ _ (hne i hi)]
   rcases l5 j hj with hj | rfl
   ·rw [upd_ne _ _ (hne j hj)]; exact h.apart i j hi hj
   ·rw [upd_same]; intro e; have := (h.gL hi e).2; omega
  ·rw [upd_same]; intro e; cases e
 ·rcases l5 i hi with hi | rfl <;> rcases l5 j hj with hj | rfl
  ·rw [upd_ne _ _ (hne i hi)] at h1; rw [upd_ne _ _ (hne j hj)] at h2; exact h.alone i j b hi hj h1 h2
  ·rw [upd_same] at h2; cases h2
  ·rw [upd_same] at h1; cases h1
  ·rfl
 ·rcases l5 i hi with hi | rfl
  ·simp only [upd_ne _ _ (hne i hi)]; intro k hk; have := h.kid i hi k hk; omega
  ·simp only [upd_same]; intro k hk; cases hk
theorem bB.empty (base : Nat) (A : Nat → Nat) (kv : Nat → Value) (F : aT) (w : World) : bB base 0 A kv F w :=
 ⟨fun _ h => absurd h (Nat.not_lt_zero _), fun _ h => absurd h (Nat.not_lt_zero _), fun _ _ h => absurd h (Nat.not_lt_zero _), fun _ h => absurd h (Nat.not_lt_zero _), fun _ _ h => absurd h (Nat.not_lt_zero _), fun _ _ _ h => absurd h (Nat.not_lt_zero _), fun _ h => absurd h (Nat.not_lt_zero _)⟩
theorem bB.push (h : bB base n A kv F w) {k c : Nat} (hk : k < n) (hc : c < n) {v : Value} (hv : ah base 137 w' v ((F.kids k ++ [c]).map (bC A))) (hg : w.grownBy w' (kv k).ownBlock)
  (hb : ∀ b, v.ownBlock = some b → (kv k).ownBlock = some b ∨ w.heap.size ≤ b) : bB base n A (upd kv k v) { F with kids := upd F.kids k (F.kids k ++ [c]) } (w'.setCell ⟨A k, 1, none⟩ v) := by
 have hold : ∀ i, i < n → w'.heap[A i]? = w.heap[A i]? := fun i hi => hg.block (A i) (h.lt hi) (fun e => h.apart k i hk hi e.symm)
 have hnA : ∀ b, v.ownBlock = some b → b ≠ A k := fun b hv2 e => by
  rcases hb b hv2 with h4 | h4
  ·exact h.apart k k hk hk (by rw [h4, e])
  ·have := h.lt hk; omega
 refine h.put hk (fun i hi e => ?_) ?_ (hv.same fun b hv2 => blk_setCell_other _ _ _ _ (hnA b hv2)) (fun i b hi e hb2 => ?_) hb ?_
 ·rw [blk_setCell_other _ _ _ _ (fun e2 => e (h.inj i k hi hk e2))]; exact hold i hi
 ·have hn := hold k hk
  rw [h.node k hk] at hn
  simp [World.setCell, Array.getElem?_modify, hn]
 ·have hne : b ≠ A k := fun e2 => h.apart i k hi hk (by rw [hb2, e2])
  rw [blk_setCell_other _ _ _ _ hne]
  exact hg.block b (h.gL hi hb2).2 (fun e2 => e (h.alone i k b hi hk hb2 e2.symm))
 ·intro j hj
  rcases List.mem_append.1 hj with h1 | h1
  ·exact h.kid k hk j h1
  ·have : j = c := by simpa using h1
   omega
end
end
section
open Go.RowKit Go.Deep
def Plain (w : World) (b : Nat) : Prop := ∃ c t, w.heap[b]? = some (.cells c t (0, 0)) ∧ 0 < c.size
section
variable {P : Program} {w : World}
theorem Fv {a b : Nat} (ha : Plain w a) (hb : Plain w b) : (sameAddr ⟨a, 0, none⟩ ⟨b, 0, none⟩).run P w = .ok (decide (a = b)) w := by
 obtain ⟨ca, ta, ha, hca⟩ := ha
 obtain ⟨cb, tb, hb, hcb⟩ := hb
 by_cases h : a = b
 ·subst h; simp [sameAddr]
 ·have h1 : (a == b) = false := by simp [h]
  simp [sameAddr, h1, h, World.frozen?, ha, hb, noView, viewAt, mayBeOne, stringish, World.shape?, getObj, Sem.run, shape, frozen]
def pk : Option Nat → Value
 | none => .pointer none
 | some b => .pointer (some ⟨b, 0, none⟩)
def fV (w : World) : Option Nat → Prop
 | none => True
 | some b => Plain w b
theorem Ra {t e : TypeId} (ht : P.underlying t = some (.pointer e)) (he : ∀ w, (sizeOf e).run P w = .ok 3 w) {x y : Option Nat} (hx : fV w x) (hy : fV w y) (d : Nat) : (Op.equalIn (d + 1) t (pk x) (pk y)).run P w = .ok (decide (x = y)) w := by
 have hu := run_underlying (w := w) ht
 unfold Op.equalIn
 cases x with
 | none => cases y <;> simp [hu, pk]
 | some a =>
  cases y with
  | none => simp [hu, pk]
  | some b =>
   have h := Fv (P := P) hx hy
   simp [hu, pk, he, h]
theorem JY {t e : TypeId} (ht : P.underlying t = some (.pointer e)) (he : ∀ w, (sizeOf e).run P w = .ok 3 w) {x y : Option Nat} (hx : fV w x) (hy : fV w y) : (Op.equal t (pk x) (pk y)).run P w = .ok (decide (x = y)) w :=
 Ra ht he hx hy 9999
theorem LL {t e : TypeId} (ht : P.underlying t = some (.pointer e)) (he : ∀ w, (sizeOf e).run P w = .ok 3 w) {k : Option Nat} (hk : fV w k) : ∀ (es : List MapEntry) (l : List (Option Nat × Value)) (i : Nat),
  es.map (fun x => (x.key, x.val)) = l.map (fun x => (pk x.1, x.2)) → (∀ x ∈ l, fV w x.1) →
   (l.lookup k = none ∧ (Instr.findAsking t (pk k) es i).run P w = .ok none w) ∨ ∃ j v, l.lookup k = some v ∧ (Instr.findAsking t (pk k) es i).run P w = .ok (some (j, v)) w := by
 intro es
 induction es with
 | nil =>
  intro l i hl _
  cases l with
  | nil => exact .inl ⟨rfl, by simp [Instr.findAsking]⟩
  | cons => cases hl
 | cons x es ih =>
  intro l i hl hok
  cases l with
  | nil => cases hl
  | cons y l =>
   simp only [List.map_cons, List.cons.injEq, Prod.mk.injEq] at hl
   obtain ⟨⟨h1, h2⟩, h3⟩ := hl
   have heq := JY (w := w) ht he hk (hok y (by simp))
   rw [← h1] at heq
   by_cases h : k = y.1
   ·subst h
    refine .inr ⟨i, y.2, ?_, ?_⟩
    ·obtain ⟨y1, y2⟩ := y; simp
    ·simp [Instr.findAsking, heq, h2]
   ·have hb : (k == y.1) = false := by simpa using h
    rcases ih l (i + 1) h3 (fun z hz => hok z (by simp [hz])) with ⟨h4, h5⟩ | ⟨j, v, h4, h5⟩
    ·refine .inl ⟨?_, by simp [Instr.findAsking, heq, h, h5]⟩
     obtain ⟨y1, y2⟩ := y
     rw [List.lookup_cons, hb]; exact h4
    ·refine .inr ⟨j, v, ?_, by simp [Instr.findAsking, heq, h, h5]⟩
     obtain ⟨y1, y2⟩ := y
     rw [List.lookup_cons, hb]; exact h4
def jg (w : World) (b : Nat) (l : List (Option Nat × Value)) : Prop := ∃ es clock, w.heap[b]? = some (.map es clock) ∧ es.toList.map (fun x => (x.key, x.val)) = l.map (fun x => (pk x.1, x.2))
theorem run_findKey {t e : TypeId} (ht : P.underlying t = some (.pointer e)) (he : ∀ w, (sizeOf e).run P w = .ok 3 w) {k : Option Nat} (hk : fV w k) (es : List MapEntry) (l : List (Option Nat × Value))
  (hl : es.map (fun x => (x.key, x.val)) = l.map (fun x => (pk x.1, x.2))) (hok : ∀ x ∈ l, fV w x.1) :
   (l.lookup k = none ∧ (Instr.findKey t (pk k) es).run P w = .ok none w) ∨ ∃ j v, l.lookup k = some v ∧ (Instr.findKey t (pk k) es).run P w = .ok (some (j, v)) w := by
 have hu := run_underlying (w := w) ht
 have h := LL ht he hk es l 0 hl hok
 cases es with
 | nil =>
  cases l with
  | nil => exact .inl ⟨rfl, by simp [Instr.findKey, hu, Instr.findNow]⟩
  | cons => cases hl
 | cons x es =>
  have hn : Instr.findNow (.pointer e) (pk k) (x :: es) 0 = none := by simp [Instr.findNow, Instr.sameNow]
  rcases h with ⟨h1, h2⟩ | ⟨j, v, h1, h2⟩
  ·exact .inl ⟨h1, by simp [Instr.findKey, hu, hn, h2]⟩
  ·exact .inr ⟨j, v, h1, by simp [Instr.findKey, hu, hn, h2]⟩
theorem run_checkKey {t e : TypeId} (ht : P.underlying t = some (.pointer e)) (em : Bool) (k : Option Nat) : (Instr.checkKey em 10000 t (pk k)).run P w = .ok () w := by
 have hu := run_underlying (w := w) ht
 show (Instr.checkKey em (9999 + 1) t (pk k)).run P w = _
 unfold Instr.checkKey
 cases k <;> simp [hu, pk]
theorem uT {mt t e el : TypeId} (hm : P.underlying mt = some (.map t el)) (ht : P.underlying t = some (.pointer e)) (he : ∀ w, (sizeOf e).run P w = .ok 3 w) {b : Nat} {l : List (Option Nat × Value)} (h : jg w b l) {k : Option Nat} {v : Value}
  (hk : fV w k) (hok : ∀ x ∈ l, fV w x.1) (hv : l.lookup k = some v) : (Instr.lookup mt (.map (some b)) (pk k) false).run P w = .ok v w := by
 obtain ⟨es, clock, hb, hl⟩ := h
 have hu := run_underlying (w := w) hm
 have hg := MapKept.run_getObj_map (P := P) hb
 rcases run_findKey ht he hk es.toList l hl hok with ⟨h1, h2⟩ | ⟨j, v', h1, h2⟩
 ·rw [h1] at hv; cases hv
 ·rw [h1] at hv; injection hv with hv; subst hv
  simp [Instr.lookup, hu, hg, run_checkKey ht, h2]
theorem Fw {mt t e el : TypeId} (hm : P.underlying mt = some (.map t el)) (ht : P.underlying t = some (.pointer e)) (he : ∀ w, (sizeOf e).run P w = .ok 3 w) {b : Nat} {l : List (Option Nat × Value)} (h : jg w b l) {k : Option Nat} (v : Value)
  (hk : fV w k) (hok : ∀ x ∈ l, fV w x.1) (hv : l.lookup k = none) :
  ∃ w', (Instr.mapUpdate mt (.map (some b)) (pk k) v).run P w = .ok () w' ∧ jg w' b (l ++ [(k, v)]) ∧ w'.heap.size = w.heap.size ∧ w'.os = w.os ∧ w'.tape = w.tape ∧ w'.output = w.output ∧ ∀ j, j ≠ b → w'.heap[j]? = w.heap[j]? := by
 obtain ⟨es, clock, hb, hl⟩ := h
 have hu := run_underlying (w := w) hm
 have hg := MapKept.run_getObj_map (P := P) hb
 rcases run_findKey ht he hk es.toList l hl hok with ⟨h1, h2⟩ | ⟨j, v', h1, h2⟩
 ·have hs := MapKept.run_setObj_map (P := P) (.map (es.push { key := pk k, val := v, born := clock }) (clock + 1)) hb
  refine ⟨{ w with heap := w.heap.setIfInBounds b (.map (es.push { key := pk k, val := v, born := clock }) (clock + 1)) }, by simp [Instr.mapUpdate, hu, hg, run_checkKey ht, h2, hs], ⟨es.push { key := pk k, val := v, born := clock }, clock + 1, ?_, by simp [hl]⟩, by simp, rfl, rfl, rfl, fun j hj => ?_⟩
  ·have := (Array.getElem?_eq_some_iff.1 hb).1
   simp [this]
  ·simp [Ne.symm hj]
 ·rw [h1] at hv; cases hv
end
end
section
open Go.Sort
theorem zW : ∀ a b : List UInt8, Lib.compareBytes b a = - Lib.compareBytes a b
 | [], [] => rfl
 | [], _ :: _ => rfl
 | _ :: _, [] => rfl
 | a :: u, b :: v => by
  unfold Lib.compareBytes
  by_cases h1 : a < b
  ·have h2 : ¬ b < a := by rw [UInt8.lt_iff_toNat_lt] at *; omega
   simp [h1, h2]
  ·by_cases h2 : b < a
   ·simp [h1, h2]
   ·simp only [h1, h2, if_false]; exact zW u v
theorem Fx : ∀ {a b : List UInt8}, Lib.compareBytes a b = 0 → a = b
 | [], [], _ => rfl
 | [], _ :: _, h => by cases h
 | _ :: _, [], h => by cases h
 | a :: u, b :: v, h => by
  unfold Lib.compareBytes at h
  split at h
  ·cases h
  ·split at h
   ·cases h
   ·rename_i h1 h2
    have e : a = b := by
     apply UInt8.toNat.inj
     rw [UInt8.lt_iff_toNat_lt] at h1 h2; omega
    rw [e, Fx h]
theorem Rb (a : List UInt8) : Lib.compareBytes a a = 0 := by have := zW a a; omega
theorem Dl : ∀ {a b c : List UInt8}, Lib.compareBytes a b < 0 → Lib.compareBytes b c < 0 → Lib.compareBytes a c < 0
 | [], [], _, h, _ => by cases h
 | [], _ :: _, [], _, h => by cases h
 | [], _ :: _, _ :: _, _, _ => Int.negSucc_lt_zero 0
 | _ :: _, [], _, h, _ => by cases h
 | _ :: _, _ :: _, [], _, h => by cases h
 | a :: u, b :: v, c :: x, h, h' => by
  unfold Lib.compareBytes at *
  by_cases h1 : a < b
  ·by_cases h2 : b < c
   ·have h3 : a < c := by rw [UInt8.lt_iff_toNat_lt] at *; omega
    rw [if_pos h3]; decide
   ·rw [if_neg h2] at h'
    by_cases h3 : c < b
    ·rw [if_pos h3] at h'; cases h'
    ·have h4 : a < c := by rw [UInt8.lt_iff_toNat_lt] at *; omega
     rw [if_pos h4]; decide
  ·rw [if_neg h1] at h
   by_cases h2 : b < a
   ·rw [if_pos h2] at h; cases h
   ·rw [if_neg h2] at h
    have e : a = b := by
     apply UInt8.toNat.inj
     rw [UInt8.lt_iff_toNat_lt] at h1 h2; omega
    subst e
    by_cases h3 : a < c
    ·rw [if_pos h3]; decide
    ·rw [if_neg h3] at h' ⊢
     by_cases h4 : c < a
     ·rw [if_pos h4] at h'; cases h'
     ·rw [if_neg h4] at h' ⊢; exact Dl h h'
def cu (a b : ByteArray) : Int := Lib.compareBytes a.data.toList b.data.toList
theorem gP (a b : ByteArray) : cu b a = - cu a b := zW _ _
theorem gQ {a b : ByteArray} (h : cu a b = 0) : a = b := ua (Fx h)
theorem qj {a b c : ByteArray} (h : cu a b < 0) (h' : cu b c < 0) : cu a c < 0 := Dl h h'
theorem Dm (a : ByteArray) : cu a a = 0 := Rb _
def mL (f : Nat → ByteArray) (x y : Nat) : Bool := decide (cu (f x) (f y) ≤ 0)
def cD (f : Nat → ByteArray) (l : List Nat) : List Nat := l.mergeSort (mL f)
theorem Dn (f : Nat → ByteArray) (a b c : Nat) (h : mL f a b = true) (h' : mL f b c = true) : mL f a c = true := by
 unfold mL at *
 simp only [decide_eq_true_eq] at *
 by_cases h1 : cu (f a) (f b) = 0
 ·rw [gQ h1]; exact h'
 ·by_cases h2 : cu (f b) (f c) = 0
  ·rw [← gQ h2]; exact h
  ·have := qj (a := f a) (b := f b) (c := f c) (by omega) (by omega); omega
theorem Dp (f : Nat → ByteArray) (a b : Nat) : (mL f a b || mL f b a) = true := by
 unfold mL
 have := gP (f a) (f b)
 simp only [Bool.or_eq_true, decide_eq_true_eq]; omega
theorem dR (f : Nat → ByteArray) (l : List Nat) : (cD f l).Perm l := List.mergeSort_perm _ _
theorem ru (f : Nat → ByteArray) (l : List Nat) : (cD f l).Pairwise (fun a b => mL f a b = true) := List.pairwise_mergeSort (Dn f) (Dp f) l
theorem zh {f g : Nat → ByteArray} {l : List Nat} (h : ∀ x ∈ l, f x = g x) : cD f l = cD g l := by
 have := List.map_mergeSort (f := id) (r := mL f) (s := mL g) (l := l) (fun a ha b hb => by simp only [mL, id]; rw [h a ha, h b hb])
 simpa [cD] using this
def Sep (f : Nat → ByteArray) (l : List Nat) : Prop := ∀ x ∈ l, ∀ y ∈ l, f x = f y → x = y
theorem vW {f : Nat → ByteArray} {l l' : List Nat} (hp : l.Perm l') (hs : Sep f l) : cD f l = cD f l' := by
 refine List.Perm.eq_of_pairwise (le := fun a b => mL f a b = true) ?_ (ru f l) (ru f l') (((dR f l).trans hp).trans (dR f l').symm)
 intro a b ha hb h1 h2
 refine hs a ((dR f l).mem_iff.1 ha) b (hp.mem_iff.2 ((dR f l').mem_iff.1 hb)) (gQ ?_)
 unfold mL at h1 h2
 simp only [decide_eq_true_eq] at h1 h2
 have := gP (f a) (f b); omega
structure Wf (F : aT) (n : Nat) (rk : Nat → Nat) : Prop where
 kid : ∀ i, i < n → ∀ k ∈ F.kids i, k < n ∧ rk k < rk i
def lsD (F : aT) : Nat → Nat → ByteArray
 | 0, i => F.nm i
 | d + 1, i => match cD (lsD F d) (F.kids i) with | [] => F.nm i | k :: _ => lsD F d k
theorem zX {F : aT} {n : Nat} {rk : Nat → Nat} (h : Wf F n rk) : ∀ {d e i : Nat}, i < n → rk i ≤ d → rk i ≤ e → lsD F d i = lsD F e i := by
 intro d
 induction d with
 | zero =>
  intro e i hi hd he
  have hk : F.kids i = [] := by
   cases hk : F.kids i with
   | nil => rfl
   | cons k l => have := (h.kid i hi k (by rw [hk]; simp)).2; omega
  cases e with
  | zero => rfl
  | succ e => simp [lsD, hk, cD]
 | succ d ih =>
  intro e i hi hd he
  have hsame : ∀ e', rk i ≤ e' + 1 → cD (lsD F d) (F.kids i) = cD (lsD F e') (F.kids i) := fun e' he' => zh fun k hk => by
   have := h.kid i hi k hk
   exact ih this.1 (by omega) (by omega)
  cases e with
  | zero =>
   have hk : F.kids i = [] := by
    cases hk : F.kids i with
    | nil => rfl
    | cons k l => have := (h.kid i hi k (by rw [hk]; simp)).2; omega
   simp [lsD, hk, cD]
  | succ e =>
   simp only [lsD]
   rw [hsame e (by omega)]
   cases hc : cD (lsD F e) (F.kids i) with
   | nil => rfl
   | cons k l =>
    have hk : k ∈ F.kids i := (dR _ _).mem_iff.1 (by rw [hc]; simp)
    have := h.kid i hi k hk
    exact ih this.1 (by omega) (by omega)
def fA (F : aT) (rk : Nat → Nat) (i : Nat) : ByteArray := lsD F (rk i) i
theorem ry {F : aT} {n : Nat} {rk : Nat → Nat} (h : Wf F n rk) {i : Nat} (hi : i < n) : fA F rk i = match cD (fA F rk) (F.kids i) with | [] => F.nm i | k :: _ => fA F rk k := by
 have h1 : fA F rk i = lsD F (rk i + 1) i := zX h hi (Nat.le_refl _) (Nat.le_succ _)
 rw [h1]
 simp only [lsD]
 have hs : cD (lsD F (rk i)) (F.kids i) = cD (fA F rk) (F.kids i) := zh fun k hk => by
  have := h.kid i hi k hk
  exact zX h this.1 (by omega) (Nat.le_refl _)
 rw [hs]
 cases hc : cD (fA F rk) (F.kids i) with
 | nil => rfl
 | cons k l =>
  have hk : k ∈ F.kids i := (dR _ _).mem_iff.1 (by rw [hc]; simp)
  have := h.kid i hi k hk
  exact zX h this.1 (by omega) (Nat.le_refl _)
def subD (F : aT) : Nat → Nat → Nat → Bool
 | 0, i, j => j == i
 | d + 1, i, j => (j == i) || (F.kids i).any fun k => subD F d k j
def bK (F : aT) (rk : Nat → Nat) (i j : Nat) : Bool := subD F (rk i) i j
theorem wX {F : aT} {n : Nat} {rk : Nat → Nat} (h : Wf F n rk) : ∀ {d e i j : Nat}, i < n → rk i ≤ d → rk i ≤ e → subD F d i j = subD F e i j := by
 intro d
 induction d with
 | zero =>
  intro e i j hi hd he
  have hk : F.kids i = [] := by
   cases hk : F.kids i with
   | nil => rfl
   | cons k l => have := (h.kid i hi k (by rw [hk]; simp)).2; omega
  cases e with
  | zero => rfl
  | succ e => simp [subD, hk]
 | succ d ih =>
  intro e i j hi hd he
  cases e with
  | zero =>
   have hk : F.kids i = [] := by
    cases hk : F.kids i with
    | nil => rfl
    | cons k l => have := (h.kid i hi k (by rw [hk]; simp)).2; omega
   simp [subD, hk]
  | succ e =>
   simp only [subD]
   congr 1
   rw [Bool.eq_iff_iff, List.any_eq_true, List.any_eq_true]
   constructor
   ·rintro ⟨k, hk, h1⟩
    have := h.kid i hi k hk
    exact ⟨k, hk, by rw [← ih (e := e) this.1 (by omega) (by omega)]; exact h1⟩
   ·rintro ⟨k, hk, h1⟩
    have := h.kid i hi k hk
    exact ⟨k, hk, by rw [ih (e := e) this.1 (by omega) (by omega)]; exact h1⟩
theorem gX {F : aT} {n : Nat} {rk : Nat → Nat} (h : Wf F n rk) {i : Nat} (hi : i < n) (j : Nat) : bK F rk i j = ((j == i) || (F.kids i).any fun k => bK F rk k j) := by
 have h1 : bK F rk i j = subD F (rk i + 1) i j := wX h hi (Nat.le_refl _) (Nat.le_succ _)
 rw [h1]
 simp only [subD]
 congr 1
 rw [Bool.eq_iff_iff, List.any_eq_true, List.any_eq_true]
 constructor
 ·rintro ⟨k, hk, h1⟩
  have := h.kid i hi k hk
  exact ⟨k, hk, by unfold bK; rw [← wX h this.1 (d := rk i) (by omega) (Nat.le_refl _)]; exact h1⟩
 ·rintro ⟨k, hk, h1⟩
  have := h.kid i hi k hk
  exact ⟨k, hk, by rw [wX h this.1 (e := rk k) (by omega) (Nat.le_refl _)]; exact h1⟩
def aT.gZ (F : aT) (rk : Nat → Nat) (p : Nat → Bool) : aT := { F with kids := fun i => if p i then cD (fA F rk) (F.kids i) else F.kids i }
theorem aT.ic (F : aT) (rk : Nat → Nat) (p : Nat → Bool) (i : Nat) : ((F.gZ rk p).kids i).Perm (F.kids i) := by
 show (if p i then _ else _ : List Nat).Perm _
 split
 ·exact dR _ _
 ·exact List.Perm.refl _
end
section
open Go.RowKit Go.Deep
theorem Tryz.rz : ∀ w, (Go.sizeOf 140).run Tryz.prog w = .ok 3 w := Tryz.sizeOf140
structure jT (n : Nat) (A : Nat → Nat) (kv : Nat → Value) (w w' : World) : Prop where
 os : w'.os = w.os
 tape : w'.tape = w.tape
 output : w'.output = w.output
 size : w.heap.size ≤ w'.heap.size
 block : ∀ b, b < w.heap.size → (∀ i, i < n → b ≠ A i) → (∀ i, i < n → (kv i).ownBlock ≠ some b) → w'.heap[b]? = w.heap[b]?
section
variable {n base : Nat} {A : Nat → Nat} {kv : Nat → Value} {F : aT} {a b c : World}
theorem jT.refl (n : Nat) (A : Nat → Nat) (kv : Nat → Value) (w : World) : jT n A kv w w := ⟨rfl, rfl, rfl, Nat.le_refl _, fun _ _ _ _ => rfl⟩
theorem jT.trans (h : jT n A kv a b) (k : jT n A kv b c) : jT n A kv a c :=
 ⟨k.os.trans h.os, k.tape.trans h.tape, k.output.trans h.output, Nat.le_trans h.size k.size, fun j hj h1 h2 => (k.block j (Nat.lt_of_lt_of_le hj h.size) h1 h2).trans (h.block j hj h1 h2)⟩
theorem jT.yI (h : Up a b) : jT n A kv a b := ⟨h.os, h.tape, h.output, h.size, fun j hj _ _ => Below.block h j hj⟩
theorem jT.below (h : jT n A kv a b) (hF : bB base n A kv F a) (hb : base ≤ a.heap.size) : Below base a b :=
 ⟨h.os, h.tape, h.output, h.size, fun j hj => h.block j (by omega) (fun i hi e => by have := hF.lo i hi; omega) (fun i hi e => by have := (hF.gL hi e).1; omega)⟩
end
set_option maxHeartbeats 400000 in
theorem NM (w : World) (bx m0 x y : Nat) (l : List (Option Nat × Value)) (sx sy : ByteArray) (eZ : w.cell? ⟨bx, 0, none⟩ = some (.map (some m0))) (hm : jg w m0 l) (hok : ∀ z ∈ l, fV w z.1) (hx : Plain w x) (hy : Plain w y)
  (h1 : l.lookup (some x) = some (.string sx)) (h2 : l.lookup (some y) = some (.string sy)) :
  Calls Tryz.prog 250 #[.pointer (some ⟨x, 0, none⟩), .pointer (some ⟨y, 0, none⟩), .pointer (some ⟨bx, 0, none⟩)] w fun e w' => e = .returned (.int .i64 (cu sx sy)) ∧ w = w' := by
 have g1 := uT (P := Tryz.prog) Tryz.underlying247 Tryz.underlying137 Tryz.rz hm (k := some x) hx hok h1
 have g2 := uT (P := Tryz.prog) Tryz.underlying247 Tryz.underlying137 Tryz.rz hm (k := some y) hy hok h2
 simp only [pk] at g1 g2
 clear hm hok hx hy h1 h2
 go_enter Tryz.func250, Tryz.ntmps250
 go_wp2_with (go_at_call 251; refine (Tryz.strings_Compare sx sy _).mono ?_; rintro e w' ⟨rfl, rfl⟩)
 go_ret
 exact ⟨rfl, rfl⟩
end
end Go.Proofs.YtpnmblnahjjmhaaGreat
namespace Go.Proofs
open Go.Shelf
def Tryz.sortNode_ren : Go.Shelf.Ren := ⟨fun | 6 => 249 | 15 => 163 | 14 => 290 | 28 => 215 | 29 => 216 | 20 => 304 | 21 => 305 | 22 => 306 | 23 => 307 | 24 => 308 | 25 => 309 | 26 => 310 | 27 => 311 | 46 => 317 | 47 => 269 | 48 => 270 | 49 => 318 | 50 => 319 | 57 => 320 | n => n, fun | 22 => 138 | 24 => 137 | 25 => 249 | 3 => 3 | 39 => 171 | 0 => 0 | 53 => 211 | 55 => 213 | 4 => 4 | 46 => 203 | 45 => 202 | 50 => 208 | 5 => 5 | 9 => 9 | 66 => 261 | 70 => 265 | 76 => 282 | 77 => 197 | n => n, fun | n => n⟩
theorem Tryz.sortNode : Go.Proofs.SlLaysF.n6 Tryz.prog Tryz.sortNode_ren := {
 mixed := by kernel_rfl
 f6 := ⟨Tryz.f249.name, by decide, Tryz.func249.trans (congrArg some (by kernel_rfl))⟩
 f14 := ⟨Tryz.f290.name, by decide, Tryz.func290.trans (congrArg some (by kernel_rfl))⟩
 f15 := Tryz.func163.trans (congrArg some (by kernel_rfl))
 f20 := ⟨Tryz.f304.name, by decide, Tryz.func304.trans (congrArg some (by kernel_rfl))⟩
 f21 := ⟨Tryz.f305.name, by decide, Tryz.func305.trans (congrArg some (by kernel_rfl))⟩
 f22 := ⟨Tryz.f306.name, by decide, Tryz.func306.trans (congrArg some (by kernel_rfl))⟩
 f23 := ⟨Tryz.f307.name, by decide, Tryz.func307.trans (congrArg some (by kernel_rfl))⟩
 f24 := ⟨Tryz.f308.name, by decide, Tryz.func308.trans (congrArg some (by kernel_rfl))⟩
 f25 := ⟨Tryz.f309.name, by decide, Tryz.func309.trans (congrArg some (by kernel_rfl))⟩
 f26 := ⟨Tryz.f310.name, by decide, Tryz.func310.trans (congrArg some (by kernel_rfl))⟩
 f27 := ⟨Tryz.f311.name, by decide, Tryz.func311.trans (congrArg some (by kernel_rfl))⟩
 f28 := Tryz.func215.trans (congrArg some (by kernel_rfl))
 f29 := Tryz.func216.trans (congrArg some (by kernel_rfl))
 f46 := ⟨Tryz.f317.name, by decide, Tryz.func317.trans (congrArg some (by kernel_rfl))⟩
 f47 := Tryz.func269.trans (congrArg some (by kernel_rfl))
 f48 := Tryz.func270.trans (congrArg some (by kernel_rfl))
 f49 := ⟨Tryz.f318.name, by decide, Tryz.func318.trans (congrArg some (by kernel_rfl))⟩
 f50 := ⟨Tryz.f319.name, by decide, Tryz.func319.trans (congrArg some (by kernel_rfl))⟩
 f57 := ⟨Tryz.f320.name, by decide, Tryz.func320.trans (congrArg some (by kernel_rfl))⟩
 t0 := Tryz.underlying0
 a0 := Tryz.isAgg0
 z0 := Tryz.sizeOf0
 v0 := Tryz.zeroValue0
 t3 := Tryz.underlying3
 a3 := Tryz.isAgg3
 z3 := Tryz.sizeOf3
 v3 := Tryz.zeroValue3
 t4 := Tryz.underlying4
 a4 := Tryz.isAgg4
 z4 := Tryz.sizeOf4
 v4 := Tryz.zeroValue4
 t5 := Tryz.underlying5
 a5 := Tryz.isAgg5
 z5 := Tryz.sizeOf5
 v5 := Tryz.zeroValue5
 t9 := Tryz.underlying9
 a9 := Tryz.isAgg9
 z9 := Tryz.sizeOf9
 v9 := Tryz.zeroValue9
 t22 := Tryz.underlying138
 a22 := Tryz.isAgg138
 z22 := Tryz.sizeOf138
 v22 := Tryz.zeroValue138
 a24 := Tryz.isAgg137
 z24 := Tryz.sizeOf137
 t25 := Tryz.underlying249
 a25 := Tryz.isAgg249
 z25 := Tryz.sizeOf249
 v25 := Tryz.zeroValue249
 t39 := Tryz.underlying171
 a39 := Tryz.isAgg171
 z39 := Tryz.sizeOf171
 v39 := Tryz.zeroValue171
 t45 := Tryz.underlying202
 a45 := Tryz.isAgg202
 z45 := Tryz.sizeOf202
 v45 := Tryz.zeroValue202
 t46 := Tryz.underlying203
 a46 := Tryz.isAgg203
 z46 := Tryz.sizeOf203
 v46 := Tryz.zeroValue203
 t50 := Tryz.underlying208
 a50 := Tryz.isAgg208
 z50 := Tryz.sizeOf208
 v50 := Tryz.zeroValue208
 t53 := Tryz.underlying211
 a53 := Tryz.isAgg211
 z53 := Tryz.sizeOf211
 v53 := Tryz.zeroValue211
 t55 := Tryz.underlying213
 a55 := Tryz.isAgg213
 z55 := Tryz.sizeOf213
 v55 := Tryz.zeroValue213
 t66 := Tryz.underlying261
 a66 := Tryz.isAgg261
 z66 := Tryz.sizeOf261
 v66 := Tryz.zeroValue261
 t70 := Tryz.underlying265
 a70 := Tryz.isAgg265
 z70 := Tryz.sizeOf265
 v70 := Tryz.zeroValue265
 t76 := Tryz.underlying282
 a76 := Tryz.isAgg282
 z76 := Tryz.sizeOf282
 v76 := Tryz.zeroValue282
 t77 := Tryz.underlying197
 a77 := Tryz.isAgg197
 z77 := Tryz.sizeOf197
 v77 := Tryz.zeroValue197 }
end Go.Proofs
