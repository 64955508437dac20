/- Nodes that point at each other: how a forest lies in memory, and what keeps it. Maps whose keys are pointers at nodes. The plain law of the order of children: names compared, the least name below a node, children sorted. The closure that compares children: its contract. The world outside a forest. The contract of slices.SortFunc at nodes: the laying. -/
import Derived.Test.YtpnmblnahjjmhaaGreatQ3
import Derived.MapKept
import Derived.Laws.Pointers
import Derived.Lib.Bytealg
import Derived.Sort.Statements
import Derived.Test.YtpnmblnahjjmhaaGreatQ1
import Derived.Shelf.SlGeneric
import Derived.Shelf.SlSortCmp.NoneTotal
import Derived.Test.YtpnmblnahjjmhaaGreatProg
namespace Go.Proofs.YtpnmblnahjjmhaaGreat
set_option maxRecDepth 100000
section
open Go.RowKit Go.Deep
structure bA where
 nm : Nat → ByteArray
 old : Nat → Int
 kids : Nat → List Nat
def b7 (A : Nat → Nat) (k : Nat) : Value := .pointer (some ⟨A k, 0, none⟩)
def dQ {α : Type} (f : Nat → α) (k : Nat) (x : α) (i : Nat) : α := if i = k then x else f i
theorem bB {α : Type} (f : Nat → α) (k : Nat) (x : α) : dQ f k x k = x := by simp [dQ]
theorem bU {α : Type} (f : Nat → α) {k i : Nat} (x : α) (h : i ≠ k) : dQ f k x i = f i := by simp [dQ, h]
structure bZ (base n : Nat) (A : Nat → Nat) (kv : Nat → Value) (F : bA) (w : World) : Prop where
 node : ∀ i, i < n → w.heap[A i]? = some (.cells #[.string (F.nm i), kv i, .int .i64 (F.old i)] 140 (0, 0))
 lo : ∀ i, i < n → base ≤ A i
 inj : ∀ i j, i < n → j < n → A i = A j → i = j
 own : ∀ i, i < n → ay base 137 w (kv i) ((F.kids i).map (b7 A))
 apart : ∀ i j, i < n → j < n → (kv i).ownBlock ≠ some (A j)
 alone : ∀ i j b, i < n → j < n → (kv i).ownBlock = some b → (kv j).ownBlock = some b → i = j
 bF : ∀ i, i < n → ∀ k ∈ F.kids i, k < n
theorem ay.same {base : Nat} {e : TypeId} {w w' : World} {v : Value} {vs : List Value} (h : ay base e w v vs) (k : ∀ b, v.ownBlock = some b → w'.heap[b]? = w.heap[b]?) : ay base e w' v vs := by
 obtain ⟨hl, h | ⟨g, cap, cur, rfl, hg, hc, hr⟩⟩ := h
 ·exact ⟨hl, .inl h⟩
 ·exact ⟨hl, .inr ⟨g, cap, cur, rfl, hg, by rw [k g rfl]; exact hc, hr⟩⟩
theorem ay.nH {base base' : Nat} {e : TypeId} {w : World} {v : Value} {vs : List Value} (h : ay base e w v vs) (hb : base' ≤ base) : ay base' e w v vs := by
 obtain ⟨hl, h | ⟨g, cap, cur, rfl, hg, hc, hr⟩⟩ := h
 ·exact ⟨hl, .inl h⟩
 ·exact ⟨hl, .inr ⟨g, cap, cur, rfl, Nat.le_trans hb hg, hc, hr⟩⟩
section
variable {base n : Nat} {A : Nat → Nat} {kv : Nat → Value} {F : bA} {w w' : World}
theorem bZ.lt (h : bZ base n A kv F w) {i : Nat} (hi : i < n) : A i < w.heap.size := (Array.getElem?_eq_some_iff.1 (h.node i hi)).1
theorem bZ.iw (h : bZ base n A kv F w) {i b : Nat} (hi : i < n) (hb : (kv i).ownBlock = some b) : base ≤ b ∧ b < w.heap.size := aD (h.own i hi) hb
theorem bZ.name (h : bZ base n A kv F w) {i : Nat} (hi : i < n) : w.cell? ⟨A i, 0, none⟩ = some (.string (F.nm i)) := by simp [World.cell?, h.node i hi]
theorem bZ.qG (h : bZ base n A kv F w) {i : Nat} (hi : i < n) : w.cell? ⟨A i, 1, none⟩ = some (kv i) := by simp [World.cell?, h.node i hi]
theorem bZ.Fz (h : bZ base n A kv F w) {i : Nat} (hi : i < n) (o : Nat) : w.frozen? ⟨A i, o, none⟩ = false := by simp [World.frozen?, h.node i hi]
theorem bZ.same (h : bZ base n A kv F w) (ha : ∀ i, i < n → w'.heap[A i]? = w.heap[A i]?) (hk : ∀ i b, i < n → (kv i).ownBlock = some b → w'.heap[b]? = w.heap[b]?) : bZ base n A kv F w' :=
 ⟨fun i hi => by rw [ha i hi]; exact h.node i hi, h.lo, h.inj, fun i hi => (h.own i hi).same fun b hb => hk i b hi hb, h.apart, h.alone, h.bF⟩
theorem bZ.kept (h : bZ base n A kv F w) (k : ∀ b, base ≤ b → b < w.heap.size → w'.heap[b]? = w.heap[b]?) : bZ base n A kv F w' :=
 h.same (fun i hi => k _ (h.lo i hi) (h.lt hi)) (fun _ _ hi hb => k _ (h.iw hi hb).1 (h.iw hi hb).2)
theorem bZ.up (h : bZ base n A kv F w) (k : Up w w') : bZ base n A kv F w' := h.kept fun b _ hb => Below.block k b hb
theorem bZ.put (h : bZ base n A kv F w) {k : Nat} (hk : k < n) {v : Value} {ks : List Nat}
  (ha : ∀ i, i < n → i ≠ k → w'.heap[A i]? = w.heap[A i]?) (hn : w'.heap[A k]? = some (.cells #[.string (F.nm k), v, .int .i64 (F.old k)] 140 (0, 0)))
  (hv : ay base 137 w' v (ks.map (b7 A))) (ho : ∀ i b, i < n → i ≠ k → (kv i).ownBlock = some b → w'.heap[b]? = w.heap[b]?)
  (hb : ∀ b, v.ownBlock = some b → (kv k).ownBlock = some b ∨ w.heap.size ≤ b) (hks : ∀ j ∈ ks, j < n) : bZ base n A (dQ kv k v) { F with kids := dQ F.kids k ks } w' := by
 refine ⟨fun i hi => ?_, h.lo, h.inj, fun i hi => ?_, fun i j hi hj => ?_, fun i j b hi hj h1 h2 => ?_, fun i hi => ?_⟩
 ·by_cases e : i = k
  ·subst e; rw [bB]; exact hn
  ·rw [bU _ _ e, ha i hi e]; exact h.node i hi
 ·by_cases e : i = k
  ·subst e; simp only [bB]; exact hv
  ·simp only [bU _ _ e]; exact (h.own i hi).same fun b hb => ho i b hi e hb
 ·by_cases e : i = k
  ·subst e; rw [bB]; intro h3
   rcases hb _ h3 with h4 | h4
   ·exact h.apart i j hi hj h4
   ·exact absurd (h.lt hj) (by omega)
  ·rw [bU _ _ e]; exact h.apart i j hi hj
 ·by_cases e1 : i = k
  ·by_cases e2 : j = k
   ·rw [e1, e2]
   ·subst e1
    rw [bB] at h1
    rw [bU _ _ e2] at h2
    rcases hb _ h1 with h4 | h4
    ·exact h.alone i j b hi hj h4 h2
    ·exact absurd (h.iw hj h2).2 (by omega)
  ·by_cases e2 : j = k
   ·subst e2
    rw [bB] at h2
    rw [bU _ _ e1] at h1
    rcases hb _ h2 with h4 | h4
    ·exact h.alone i j b hi hj h1 h4
    ·exact absurd (h.iw hi h1).2 (by omega)
   ·rw [bU _ _ e1] at h1
    rw [bU _ _ e2] at h2
    exact h.alone i j b hi hj h1 h2
 ·by_cases e : i = k
  ·subst e; simp only [bB]; exact hks
  ·simp only [bU _ _ e]; exact h.bF i hi
theorem bZ.Aj (h : bZ base n A kv F w) (hb : base ≤ w.heap.size) (nm : ByteArray) (old : Int) :
  bZ base (n + 1) (dQ A n w.heap.size) (dQ kv n (.slice none 0 0)) ⟨dQ F.nm n nm, dQ F.old n old, dQ F.kids n []⟩ (w.alloc (.cells #[.string nm, .slice none 0 0, .int .i64 old] 140)) := by
 have hne : ∀ i, i < n → i ≠ n := fun i hi => by omega
 have hmap : ∀ i, i < n → (F.kids i).map (b7 (dQ A n w.heap.size)) = (F.kids i).map (b7 A) := fun i hi => by
  refine List.map_congr_left fun k hk => ?_
  unfold b7; rw [bU _ _ (hne k (h.bF i hi k hk))]
 have mW : ∀ i, i < n + 1 → i < n ∨ i = n := fun i hi => by omega
 refine ⟨fun i hi => ?_, fun i hi => ?_, fun i j hi hj e => ?_, fun i hi => ?_, fun i j hi hj => ?_, fun i j b hi hj h1 h2 => ?_, fun i hi => ?_⟩
 ·rcases mW i hi with hi | rfl
  ·simp only [bU _ _ (hne i hi)]; rw [blk_alloc_lt _ _ _ (h.lt hi)]; exact h.node i hi
  ·simp only [bB]; exact blk_alloc_new _ _
 ·rcases mW i hi with hi | rfl
  ·rw [bU _ _ (hne i hi)]; exact h.lo i hi
  ·rw [bB]; exact hb
 ·rcases mW i hi with hi | rfl <;> rcases mW j hj with hj | rfl
  ·rw [bU _ _ (hne i hi), bU _ _ (hne j hj)] at e; exact h.inj i j hi hj e
  ·rw [bU _ _ (hne i hi), bB] at e; have := h.lt hi; omega
  ·rw [bB, bU _ _ (hne j hj)] at e; have := h.lt hj; omega
  ·rfl
 ·rcases mW i hi with hi | rfl
  ·simp only [bU _ _ (hne i hi)]; rw [hmap i hi]; exact (h.own i hi).alloc _
  ·simp only [bB]; exact ay.nil _ _ _
 ·rcases mW i hi with hi | rfl
  ·rw [bU _ _ (hne i hi)]
   rcases mW j hj with hj | rfl
   ·rw [bU _ _ (hne j hj)]; exact h.apart i j hi hj
   ·rw [bB]; intro e; have := (h.iw hi e).2; omega
  ·rw [bB]; intro e; cases e
 ·rcases mW i hi with hi | rfl <;> rcases mW j hj with hj | rfl
  ·rw [bU _ _ (hne i hi)] at h1; rw [bU _ _ (hne j hj)] at h2; exact h.alone i j b hi hj h1 h2
  ·rw [bB] at h2; cases h2
  ·rw [bB] at h1; cases h1
  ·rfl
 ·rcases mW i hi with hi | rfl
  ·simp only [bU _ _ (hne i hi)]; intro k hk; have := h.bF i hi k hk; omega
  ·simp only [bB]; intro k hk; cases hk
theorem bZ.empty (base : Nat) (A : Nat → Nat) (kv : Nat → Value) (F : bA) (w : World) : bZ base 0 A kv F w :=
 ⟨fun _ h => absurd h (Nat.not_lt_zero _), fun _ h => absurd h (Nat.not_lt_zero _), fun _ _ h => absurd h (Nat.not_lt_zero _), fun _ h => absurd h (Nat.not_lt_zero _), fun _ _ h => absurd h (Nat.not_lt_zero _), fun _ _ _ h => absurd h (Nat.not_lt_zero _), fun _ h => absurd h (Nat.not_lt_zero _)⟩
theorem bZ.push (h : bZ base n A kv F w) {k c : Nat} (hk : k < n) (hc : c < n) {v : Value} (hv : ay base 137 w' v ((F.kids k ++ [c]).map (b7 A))) (hg : w.grownBy w' (kv k).ownBlock)
  (hb : ∀ b, v.ownBlock = some b → (kv k).ownBlock = some b ∨ w.heap.size ≤ b) : bZ base n A (dQ kv k v) { F with kids := dQ F.kids k (F.kids k ++ [c]) } (w'.setCell ⟨A k, 1, none⟩ v) := by
 have hold : ∀ i, i < n → w'.heap[A i]? = w.heap[A i]? := fun i hi => hg.block (A i) (h.lt hi) (fun e => h.apart k i hk hi e.symm)
 have hnA : ∀ b, v.ownBlock = some b → b ≠ A k := fun b JY e => by
  rcases hb b JY with h4 | h4
  ·exact h.apart k k hk hk (by rw [h4, e])
  ·have := h.lt hk; omega
 refine h.put hk (fun i hi e => ?_) ?_ (hv.same fun b JY => blk_setCell_other _ _ _ _ (hnA b JY)) (fun i b hi e bK => ?_) hb ?_
 ·rw [blk_setCell_other _ _ _ _ (fun e2 => e (h.inj i k hi hk e2))]; exact hold i hi
 ·have hn := hold k hk
  rw [h.node k hk] at hn
  simp [World.setCell, Array.getElem?_modify, hn]
 ·have hne : b ≠ A k := fun e2 => h.apart i k hi hk (by rw [bK, e2])
  rw [blk_setCell_other _ _ _ _ hne]
  exact hg.block b (h.iw hi bK).2 (fun e2 => e (h.alone i k b hi hk bK e2.symm))
 ·intro j hj
  rcases List.mem_append.1 hj with h1 | h1
  ·exact h.bF k hk j h1
  ·have : j = c := by simpa using h1
   omega
end
end
section
open Go.RowKit Go.Deep
def Plain (w : World) (b : Nat) : Prop := ∃ c t, w.heap[b]? = some (.cells c t (0, 0)) ∧ 0 < c.size
section
variable {P : Program} {w : World}
theorem FA {a b : Nat} (ha : Plain w a) (hb : Plain w b) : (sameAddr ⟨a, 0, none⟩ ⟨b, 0, none⟩).run P w = .ok (decide (a = b)) w := by
 obtain ⟨ca, ta, ha, hca⟩ := ha
 obtain ⟨cb, tb, hb, hcb⟩ := hb
 by_cases h : a = b
 ·subst h; simp [sameAddr]
 ·have h1 : (a == b) = false := by simp [h]
  simp [sameAddr, h1, h, World.frozen?, ha, hb, noView, viewAt, mayBeOne, stringish, World.shape?, getObj, Sem.run, shape, frozen]
def pk : Option Nat → Value
 | none => .pointer none
 | some b => .pointer (some ⟨b, 0, none⟩)
def gI (w : World) : Option Nat → Prop
 | none => True
 | some b => Plain w b
theorem Rf {t e : TypeId} (ht : P.underlying t = some (.pointer e)) (he : ∀ w, (sizeOf e).run P w = .ok 3 w) {x y : Option Nat} (hx : gI w x) (hy : gI w y) (d : Nat) : (Op.equalIn (d + 1) t (pk x) (pk y)).run P w = .ok (decide (x = y)) w := by
 have hu := run_underlying (w := w) ht
 unfold Op.equalIn
 cases x with
 | none => cases y <;> simp [hu, pk]
 | some a =>
  cases y with
  | none => simp [hu, pk]
  | some b =>
   have h := FA (P := P) hx hy
   simp [hu, pk, he, h]
theorem JZ {t e : TypeId} (ht : P.underlying t = some (.pointer e)) (he : ∀ w, (sizeOf e).run P w = .ok 3 w) {x y : Option Nat} (hx : gI w x) (hy : gI w y) : (Op.equal t (pk x) (pk y)).run P w = .ok (decide (x = y)) w :=
 Rf ht he hx hy 9999
theorem LO {t e : TypeId} (ht : P.underlying t = some (.pointer e)) (he : ∀ w, (sizeOf e).run P w = .ok 3 w) {k : Option Nat} (hk : gI w k) : ∀ (es : List MapEntry) (l : List (Option Nat × Value)) (i : Nat),
  es.map (fun x => (x.key, x.val)) = l.map (fun x => (pk x.1, x.2)) → (∀ x ∈ l, gI w x.1) →
   (l.lookup k = none ∧ (Instr.findAsking t (pk k) es i).run P w = .ok none w) ∨ ∃ j v, l.lookup k = some v ∧ (Instr.findAsking t (pk k) es i).run P w = .ok (some (j, v)) w := by
 intro es
 induction es with
 | nil =>
  intro l i hl _
  cases l with
  | nil => exact .inl ⟨rfl, by simp [Instr.findAsking]⟩
  | cons => cases hl
 | cons x es ih =>
  intro l i hl hok
  cases l with
  | nil => cases hl
  | cons y l =>
   simp only [List.map_cons, List.cons.injEq, Prod.mk.injEq] at hl
   obtain ⟨⟨h1, h2⟩, h3⟩ := hl
   have heq := JZ (w := w) ht he hk (hok y (by simp))
   rw [← h1] at heq
   by_cases h : k = y.1
   ·subst h
    refine .inr ⟨i, y.2, ?_, ?_⟩
    ·obtain ⟨y1, y2⟩ := y; simp
    ·simp [Instr.findAsking, heq, h2]
   ·have hb : (k == y.1) = false := by simpa using h
    rcases ih l (i + 1) h3 (fun z hz => hok z (by simp [hz])) with ⟨h4, h5⟩ | ⟨j, v, h4, h5⟩
    ·refine .inl ⟨?_, by simp [Instr.findAsking, heq, h, h5]⟩
     obtain ⟨y1, y2⟩ := y
     rw [List.lookup_cons, hb]; exact h4
    ·refine .inr ⟨j, v, ?_, by simp [Instr.findAsking, heq, h, h5]⟩
     obtain ⟨y1, y2⟩ := y
     rw [List.lookup_cons, hb]; exact h4
def jK (w : World) (b : Nat) (l : List (Option Nat × Value)) : Prop := ∃ es clock, w.heap[b]? = some (.map es clock) ∧ es.toList.map (fun x => (x.key, x.val)) = l.map (fun x => (pk x.1, x.2))
theorem run_findKey {t e : TypeId} (ht : P.underlying t = some (.pointer e)) (he : ∀ w, (sizeOf e).run P w = .ok 3 w) {k : Option Nat} (hk : gI w k) (es : List MapEntry) (l : List (Option Nat × Value))
  (hl : es.map (fun x => (x.key, x.val)) = l.map (fun x => (pk x.1, x.2))) (hok : ∀ x ∈ l, gI w x.1) :
   (l.lookup k = none ∧ (Instr.findKey t (pk k) es).run P w = .ok none w) ∨ ∃ j v, l.lookup k = some v ∧ (Instr.findKey t (pk k) es).run P w = .ok (some (j, v)) w := by
 have hu := run_underlying (w := w) ht
 have h := LO ht he hk es l 0 hl hok
 cases es with
 | nil =>
  cases l with
  | nil => exact .inl ⟨rfl, by simp [Instr.findKey, hu, Instr.findNow]⟩
  | cons => cases hl
 | cons x es =>
  have hn : Instr.findNow (.pointer e) (pk k) (x :: es) 0 = none := by simp [Instr.findNow, Instr.sameNow]
  rcases h with ⟨h1, h2⟩ | ⟨j, v, h1, h2⟩
  ·exact .inl ⟨h1, by simp [Instr.findKey, hu, hn, h2]⟩
  ·exact .inr ⟨j, v, h1, by simp [Instr.findKey, hu, hn, h2]⟩
theorem run_checkKey {t e : TypeId} (ht : P.underlying t = some (.pointer e)) (em : Bool) (k : Option Nat) : (Instr.checkKey em 10000 t (pk k)).run P w = .ok () w := by
 have hu := run_underlying (w := w) ht
 show (Instr.checkKey em (9999 + 1) t (pk k)).run P w = _
 unfold Instr.checkKey
 cases k <;> simp [hu, pk]
theorem vu {mt t e el : TypeId} (hm : P.underlying mt = some (.map t el)) (ht : P.underlying t = some (.pointer e)) (he : ∀ w, (sizeOf e).run P w = .ok 3 w) {b : Nat} {l : List (Option Nat × Value)} (h : jK w b l) {k : Option Nat} {v : Value}
  (hk : gI w k) (hok : ∀ x ∈ l, gI w x.1) (hv : l.lookup k = some v) : (Instr.lookup mt (.map (some b)) (pk k) false).run P w = .ok v w := by
 obtain ⟨es, clock, hb, hl⟩ := h
 have hu := run_underlying (w := w) hm
 have hg := MapKept.run_getObj_map (P := P) hb
 rcases run_findKey ht he hk es.toList l hl hok with ⟨h1, h2⟩ | ⟨j, v', h1, h2⟩
 ·rw [h1] at hv; cases hv
 ·rw [h1] at hv; injection hv with hv; subst hv
  simp [Instr.lookup, hu, hg, run_checkKey ht, h2]
theorem FB {mt t e el : TypeId} (hm : P.underlying mt = some (.map t el)) (ht : P.underlying t = some (.pointer e)) (he : ∀ w, (sizeOf e).run P w = .ok 3 w) {b : Nat} {l : List (Option Nat × Value)} (h : jK w b l) {k : Option Nat} (v : Value)
  (hk : gI w k) (hok : ∀ x ∈ l, gI w x.1) (hv : l.lookup k = none) :
  ∃ w', (Instr.mapUpdate mt (.map (some b)) (pk k) v).run P w = .ok () w' ∧ jK w' b (l ++ [(k, v)]) ∧ w'.heap.size = w.heap.size ∧ w'.os = w.os ∧ w'.tape = w.tape ∧ w'.output = w.output ∧ ∀ j, j ≠ b → w'.heap[j]? = w.heap[j]? := by
 obtain ⟨es, clock, hb, hl⟩ := h
 have hu := run_underlying (w := w) hm
 have hg := MapKept.run_getObj_map (P := P) hb
 rcases run_findKey ht he hk es.toList l hl hok with ⟨h1, h2⟩ | ⟨j, v', h1, h2⟩
 ·have hs := MapKept.run_setObj_map (P := P) (.map (es.push { key := pk k, val := v, born := clock }) (clock + 1)) hb
  refine ⟨{ w with heap := w.heap.setIfInBounds b (.map (es.push { key := pk k, val := v, born := clock }) (clock + 1)) }, by simp [Instr.mapUpdate, hu, hg, run_checkKey ht, h2, hs], ⟨es.push { key := pk k, val := v, born := clock }, clock + 1, ?_, by simp [hl]⟩, by simp, rfl, rfl, rfl, fun j hj => ?_⟩
  ·have := (Array.getElem?_eq_some_iff.1 hb).1
   simp [this]
  ·simp [Ne.symm hj]
 ·rw [h1] at hv; cases hv
end
end
section
open Go.Sort
theorem Ak : ∀ a b : List UInt8, Lib.compareBytes b a = - Lib.compareBytes a b
 | [], [] => rfl
 | [], _ :: _ => rfl
 | _ :: _, [] => rfl
 | a :: u, b :: v => by
  unfold Lib.compareBytes
  by_cases h1 : a < b
  ·have h2 : ¬ b < a := by rw [UInt8.lt_iff_toNat_lt] at *; omega
   simp [h1, h2]
  ·by_cases h2 : b < a
   ·simp [h1, h2]
   ·simp only [h1, h2, if_false]; exact Ak u v
theorem FC : ∀ {a b : List UInt8}, Lib.compareBytes a b = 0 → a = b
 | [], [], _ => rfl
 | [], _ :: _, h => by cases h
 | _ :: _, [], h => by cases h
 | a :: u, b :: v, h => by
  unfold Lib.compareBytes at h
  split at h
  ·cases h
  ·split at h
   ·cases h
   ·rename_i h1 h2
    have e : a = b := by
     apply UInt8.toNat.inj
     rw [UInt8.lt_iff_toNat_lt] at h1 h2; omega
    rw [e, FC h]
theorem Rg (a : List UInt8) : Lib.compareBytes a a = 0 := by have := Ak a a; omega
theorem Dw : ∀ {a b c : List UInt8}, Lib.compareBytes a b < 0 → Lib.compareBytes b c < 0 → Lib.compareBytes a c < 0
 | [], [], _, h, _ => by cases h
 | [], _ :: _, [], _, h => by cases h
 | [], _ :: _, _ :: _, _, _ => Int.negSucc_lt_zero 0
 | _ :: _, [], _, h, _ => by cases h
 | _ :: _, _ :: _, [], _, h => by cases h
 | a :: u, b :: v, c :: x, h, h' => by
  unfold Lib.compareBytes at *
  by_cases h1 : a < b
  ·by_cases h2 : b < c
   ·have h3 : a < c := by rw [UInt8.lt_iff_toNat_lt] at *; omega
    rw [if_pos h3]; decide
   ·rw [if_neg h2] at h'
    by_cases h3 : c < b
    ·rw [if_pos h3] at h'; cases h'
    ·have h4 : a < c := by rw [UInt8.lt_iff_toNat_lt] at *; omega
     rw [if_pos h4]; decide
  ·rw [if_neg h1] at h
   by_cases h2 : b < a
   ·rw [if_pos h2] at h; cases h
   ·rw [if_neg h2] at h
    have e : a = b := by
     apply UInt8.toNat.inj
     rw [UInt8.lt_iff_toNat_lt] at h1 h2; omega
    subst e
    by_cases h3 : a < c
    ·rw [if_pos h3]; decide
    ·rw [if_neg h3] at h' ⊢
     by_cases h4 : c < a
     ·rw [if_pos h4] at h'; cases h'
     ·rw [if_neg h4] at h' ⊢; exact Dw h h'
def cW (a b : ByteArray) : Int := Lib.compareBytes a.data.toList b.data.toList
theorem iB (a b : ByteArray) : cW b a = - cW a b := Ak _ _
theorem iC {a b : ByteArray} (h : cW a b = 0) : a = b := uD (FC h)
theorem qS {a b c : ByteArray} (h : cW a b < 0) (h' : cW b c < 0) : cW a c < 0 := Dw h h'
theorem Dx (a : ByteArray) : cW a a = 0 := Rg _
def nI (f : Nat → ByteArray) (x y : Nat) : Bool := decide (cW (f x) (f y) ≤ 0)
def di (f : Nat → ByteArray) (l : List Nat) : List Nat := l.mergeSort (nI f)
theorem Dy (f : Nat → ByteArray) (a b c : Nat) (h : nI f a b = true) (h' : nI f b c = true) : nI f a c = true := by
 unfold nI at *
 simp only [decide_eq_true_eq] at *
 by_cases h1 : cW (f a) (f b) = 0
 ·rw [iC h1]; exact h'
 ·by_cases h2 : cW (f b) (f c) = 0
  ·rw [← iC h2]; exact h
  ·have := qS (a := f a) (b := f b) (c := f c) (by omega) (by omega); omega
theorem Dz (f : Nat → ByteArray) (a b : Nat) : (nI f a b || nI f b a) = true := by
 unfold nI
 have := iB (f a) (f b)
 simp only [Bool.or_eq_true, decide_eq_true_eq]; omega
theorem eR (f : Nat → ByteArray) (l : List Nat) : (di f l).Perm l := List.mergeSort_perm _ _
theorem rY (f : Nat → ByteArray) (l : List Nat) : (di f l).Pairwise (fun a b => nI f a b = true) := List.pairwise_mergeSort (Dy f) (Dz f) l
theorem zA {f g : Nat → ByteArray} {l : List Nat} (h : ∀ x ∈ l, f x = g x) : di f l = di g l := by
 have := List.map_mergeSort (f := id) (r := nI f) (s := nI g) (l := l) (fun a ha b hb => by simp only [nI, id]; rw [h a ha, h b hb])
 simpa [di] using this
def Sep (f : Nat → ByteArray) (l : List Nat) : Prop := ∀ x ∈ l, ∀ y ∈ l, f x = f y → x = y
theorem wH {f : Nat → ByteArray} {l l' : List Nat} (hp : l.Perm l') (hs : Sep f l) : di f l = di f l' := by
 refine List.Perm.eq_of_pairwise (le := fun a b => nI f a b = true) ?_ (rY f l) (rY f l') (((eR f l).trans hp).trans (eR f l').symm)
 intro a b ha hb h1 h2
 refine hs a ((eR f l).mem_iff.1 ha) b (hp.mem_iff.2 ((eR f l').mem_iff.1 hb)) (iC ?_)
 unfold nI at h1 h2
 simp only [decide_eq_true_eq] at h1 h2
 have := iB (f a) (f b); omega
structure Wf (F : bA) (n : Nat) (rk : Nat → Nat) : Prop where
 bF : ∀ i, i < n → ∀ k ∈ F.kids i, k < n ∧ rk k < rk i
def lsD (F : bA) : Nat → Nat → ByteArray
 | 0, i => F.nm i
 | d + 1, i => match di (lsD F d) (F.kids i) with | [] => F.nm i | k :: _ => lsD F d k
theorem Al {F : bA} {n : Nat} {rk : Nat → Nat} (h : Wf F n rk) : ∀ {d e i : Nat}, i < n → rk i ≤ d → rk i ≤ e → lsD F d i = lsD F e i := by
 intro d
 induction d with
 | zero =>
  intro e i hi hd he
  have hk : F.kids i = [] := by
   cases hk : F.kids i with
   | nil => rfl
   | cons k l => have := (h.bF i hi k (by rw [hk]; simp)).2; omega
  cases e with
  | zero => rfl
  | succ e => simp [lsD, hk, di]
 | succ d ih =>
  intro e i hi hd he
  have hsame : ∀ e', rk i ≤ e' + 1 → di (lsD F d) (F.kids i) = di (lsD F e') (F.kids i) := fun e' he' => zA fun k hk => by
   have := h.bF i hi k hk
   exact ih this.1 (by omega) (by omega)
  cases e with
  | zero =>
   have hk : F.kids i = [] := by
    cases hk : F.kids i with
    | nil => rfl
    | cons k l => have := (h.bF i hi k (by rw [hk]; simp)).2; omega
   simp [lsD, hk, di]
  | succ e =>
   simp only [lsD]
   rw [hsame e (by omega)]
   cases hc : di (lsD F e) (F.kids i) with
   | nil => rfl
   | cons k l =>
    have hk : k ∈ F.kids i := (eR _ _).mem_iff.1 (by rw [hc]; simp)
    have := h.bF i hi k hk
    exact ih this.1 (by omega) (by omega)
def ga (F : bA) (rk : Nat → Nat) (i : Nat) : ByteArray := lsD F (rk i) i
theorem rZ {F : bA} {n : Nat} {rk : Nat → Nat} (h : Wf F n rk) {i : Nat} (hi : i < n) : ga F rk i = match di (ga F rk) (F.kids i) with | [] => F.nm i | k :: _ => ga F rk k := by
 have h1 : ga F rk i = lsD F (rk i + 1) i := Al h hi (Nat.le_refl _) (Nat.le_succ _)
 rw [h1]
 simp only [lsD]
 have hs : di (lsD F (rk i)) (F.kids i) = di (ga F rk) (F.kids i) := zA fun k hk => by
  have := h.bF i hi k hk
  exact Al h this.1 (by omega) (Nat.le_refl _)
 rw [hs]
 cases hc : di (ga F rk) (F.kids i) with
 | nil => rfl
 | cons k l =>
  have hk : k ∈ F.kids i := (eR _ _).mem_iff.1 (by rw [hc]; simp)
  have := h.bF i hi k hk
  exact Al h this.1 (by omega) (Nat.le_refl _)
def subD (F : bA) : Nat → Nat → Nat → Bool
 | 0, i, j => j == i
 | d + 1, i, j => (j == i) || (F.kids i).any fun k => subD F d k j
def cG (F : bA) (rk : Nat → Nat) (i j : Nat) : Bool := subD F (rk i) i j
theorem xC {F : bA} {n : Nat} {rk : Nat → Nat} (h : Wf F n rk) : ∀ {d e i j : Nat}, i < n → rk i ≤ d → rk i ≤ e → subD F d i j = subD F e i j := by
 intro d
 induction d with
 | zero =>
  intro e i j hi hd he
  have hk : F.kids i = [] := by
   cases hk : F.kids i with
   | nil => rfl
   | cons k l => have := (h.bF i hi k (by rw [hk]; simp)).2; omega
  cases e with
  | zero => rfl
  | succ e => simp [subD, hk]
 | succ d ih =>
  intro e i j hi hd he
  cases e with
  | zero =>
   have hk : F.kids i = [] := by
    cases hk : F.kids i with
    | nil => rfl
    | cons k l => have := (h.bF i hi k (by rw [hk]; simp)).2; omega
   simp [subD, hk]
  | succ e =>
   simp only [subD]
   congr 1
   rw [Bool.eq_iff_iff, List.any_eq_true, List.any_eq_true]
   constructor
   ·rintro ⟨k, hk, h1⟩
    have := h.bF i hi k hk
    exact ⟨k, hk, by rw [← ih (e := e) this.1 (by omega) (by omega)]; exact h1⟩
   ·rintro ⟨k, hk, h1⟩
    have := h.bF i hi k hk
    exact ⟨k, hk, by rw [ih (e := e) this.1 (by omega) (by omega)]; exact h1⟩
theorem iI {F : bA} {n : Nat} {rk : Nat → Nat} (h : Wf F n rk) {i : Nat} (hi : i < n) (j : Nat) : cG F rk i j = ((j == i) || (F.kids i).any fun k => cG F rk k j) := by
 have h1 : cG F rk i j = subD F (rk i + 1) i j := xC h hi (Nat.le_refl _) (Nat.le_succ _)
 rw [h1]
 simp only [subD]
 congr 1
 rw [Bool.eq_iff_iff, List.any_eq_true, List.any_eq_true]
 constructor
 ·rintro ⟨k, hk, h1⟩
  have := h.bF i hi k hk
  exact ⟨k, hk, by unfold cG; rw [← xC h this.1 (d := rk i) (by omega) (Nat.le_refl _)]; exact h1⟩
 ·rintro ⟨k, hk, h1⟩
  have := h.bF i hi k hk
  exact ⟨k, hk, by rw [xC h this.1 (e := rk k) (by omega) (Nat.le_refl _)]; exact h1⟩
def bA.iK (F : bA) (rk : Nat → Nat) (p : Nat → Bool) : bA := { F with kids := fun i => if p i then di (ga F rk) (F.kids i) else F.kids i }
theorem bA.iL (F : bA) (rk : Nat → Nat) (p : Nat → Bool) (i : Nat) : ((F.iK rk p).kids i).Perm (F.kids i) := by
 show (if p i then _ else _ : List Nat).Perm _
 split
 ·exact eR _ _
 ·exact List.Perm.refl _
end
section
open Go.RowKit Go.Deep
theorem Tryz.r4 : ∀ w, (Go.sizeOf 140).run Tryz.prog w = .ok 3 w := Tryz.sizeOf140
structure kN (n : Nat) (A : Nat → Nat) (kv : Nat → Value) (w w' : World) : Prop where
 os : w'.os = w.os
 tape : w'.tape = w.tape
 output : w'.output = w.output
 size : w.heap.size ≤ w'.heap.size
 block : ∀ b, b < w.heap.size → (∀ i, i < n → b ≠ A i) → (∀ i, i < n → (kv i).ownBlock ≠ some b) → w'.heap[b]? = w.heap[b]?
section
variable {n base : Nat} {A : Nat → Nat} {kv : Nat → Value} {F : bA} {a b c : World}
theorem kN.refl (n : Nat) (A : Nat → Nat) (kv : Nat → Value) (w : World) : kN n A kv w w := ⟨rfl, rfl, rfl, Nat.le_refl _, fun _ _ _ _ => rfl⟩
theorem kN.trans (h : kN n A kv a b) (k : kN n A kv b c) : kN n A kv a c :=
 ⟨k.os.trans h.os, k.tape.trans h.tape, k.output.trans h.output, Nat.le_trans h.size k.size, fun j hj h1 h2 => (k.block j (Nat.lt_of_lt_of_le hj h.size) h1 h2).trans (h.block j hj h1 h2)⟩
theorem kN.yY (h : Up a b) : kN n A kv a b := ⟨h.os, h.tape, h.output, h.size, fun j hj _ _ => Below.block h j hj⟩
theorem kN.below (h : kN n A kv a b) (hF : bZ base n A kv F a) (hb : base ≤ a.heap.size) : Below base a b :=
 ⟨h.os, h.tape, h.output, h.size, fun j hj => h.block j (by omega) (fun i hi e => by have := hF.lo i hi; omega) (fun i hi e => by have := (hF.iw hi e).1; omega)⟩
end
set_option maxHeartbeats 400000 in
theorem NO (w : World) (bx m0 x y : Nat) (l : List (Option Nat × Value)) (sx sy : ByteArray) (fN : w.cell? ⟨bx, 0, none⟩ = some (.map (some m0))) (hm : jK w m0 l) (hok : ∀ z ∈ l, gI w z.1) (hx : Plain w x) (hy : Plain w y)
  (h1 : l.lookup (some x) = some (.string sx)) (h2 : l.lookup (some y) = some (.string sy)) :
  Calls Tryz.prog 250 #[.pointer (some ⟨x, 0, none⟩), .pointer (some ⟨y, 0, none⟩), .pointer (some ⟨bx, 0, none⟩)] w fun e w' => e = .returned (.int .i64 (cW sx sy)) ∧ w = w' := by
 have g1 := vu (P := Tryz.prog) Tryz.underlying247 Tryz.underlying137 Tryz.r4 hm (k := some x) hx hok h1
 have g2 := vu (P := Tryz.prog) Tryz.underlying247 Tryz.underlying137 Tryz.r4 hm (k := some y) hy hok h2
 simp only [pk] at g1 g2
 clear hm hok hx hy h1 h2
 aq Tryz.func250, Tryz.ntmps250
 aa (bg 251; refine (Tryz.strings_Compare sx sy _).mono ?_; rintro e w' ⟨rfl, rfl⟩)
 ax
 exact ⟨rfl, rfl⟩
end
end Go.Proofs.YtpnmblnahjjmhaaGreat
namespace Go.Proofs
open Go.Shelf
end Go.Proofs
