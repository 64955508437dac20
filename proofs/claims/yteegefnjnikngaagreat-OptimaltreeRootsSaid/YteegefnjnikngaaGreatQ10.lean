/- Nodes that point at each other: how a forest lies in memory, and what keeps it. Sets of .. -/
import Derived.Test.YteegefnjnikngaaGreatQ9
import Derived.Laws.Bits64b
import Derived.Laws.BitsAllLaws
import Derived.Test.YteegefnjnikngaaGreatQ1
import Derived.Test.YteegefnjnikngaaGreatQ2
import Derived.Sort.OwnSorted
import Derived.Shelf.Slices.In.SortNone
import Derived.Shelf.SortM.Plain
import Derived.Shelf.SortM.SortNone
import Derived.Sort.OwnSortedInts
import Derived.RangeFuncWrites
import Derived.Test.YteegefnjnikngaaGreatQ5
import Derived.Laws.EntriesVeiled
import Derived.Test.YteegefnjnikngaaGreatQ3
import Derived.Test.YteegefnjnikngaaGreatQ4
import Derived.Shelf.Slices.Empties
import Derived.Test.YteegefnjnikngaaGreatQ8
import Derived.Lib.Bytealg
import Derived.Sort.Statements
import Derived.MapKept
import Derived.Laws.Pointers
set_option maxRecDepth 100000
namespace Go.Proofs.YteegefnjnikngaaGreat
section
open Go.RowKit Go.Deep
structure aP where
 nm : Nat → ByteArray
 old : Nat → Int
 kids : Nat → List Nat
def aL (A : Nat → Nat) (k : Nat) : Value := .pointer (some ⟨A k, 0, none⟩)
def upd {α : Type} (f : Nat → α) (k : Nat) (x : α) (i : Nat) : α := if i = k then x else f i
theorem upd_same {α : Type} (f : Nat → α) (k : Nat) (x : α) : upd f k x k = x := by simp [upd]
theorem upd_ne {α : Type} (f : Nat → α) {k i : Nat} (x : α) (h : i ≠ k) : upd f k x i = f i := by simp [upd, h]
structure aS (base n : Nat) (A : Nat → Nat) (kv : Nat → Value) (F : aP) (w : World) : Prop where
 node : ∀ i, i < n → w.heap[A i]? = some (.cells #[.string (F.nm i), kv i, .int .i64 (F.old i)] 127 (0, 0))
 lo : ∀ i, i < n → base ≤ A i
 inj : ∀ i j, i < n → j < n → A i = A j → i = j
 own : ∀ i, i < n → aA base 124 w (kv i) ((F.kids i).map (aL A))
 apart : ∀ i j, i < n → j < n → (kv i).ownBlock ≠ some (A j)
 alone : ∀ i j b, i < n → j < n → (kv i).ownBlock = some b → (kv j).ownBlock = some b → i = j
 kid : ∀ i, i < n → ∀ k ∈ F.kids i, k < n
theorem aA.same {base : Nat} {e : TypeId} {w w' : World} {v : Value} {vs : List Value} (h : aA base e w v vs) (k : ∀ b, v.ownBlock = some b → w'.heap[b]? = w.heap[b]?) : aA base e w' v vs := by
 obtain ⟨hl, h | ⟨g, cap, cur, rfl, hg, hc, hr⟩⟩ := h
 ·exact ⟨hl, .inl h⟩
 ·exact ⟨hl, .inr ⟨g, cap, cur, rfl, hg, by rw [k g rfl]; exact hc, hr⟩⟩
theorem aA.tQ {base base' : Nat} {e : TypeId} {w : World} {v : Value} {vs : List Value} (h : aA base e w v vs) (hb : base' ≤ base) : aA base' e w v vs := by
 obtain ⟨hl, h | ⟨g, cap, cur, rfl, hg, hc, hr⟩⟩ := h
 ·exact ⟨hl, .inl h⟩
 ·exact ⟨hl, .inr ⟨g, cap, cur, rfl, Nat.le_trans hb hg, hc, hr⟩⟩
section
variable {base n : Nat} {A : Nat → Nat} {kv : Nat → Value} {F : aP} {w w' : World}
theorem aS.lt (h : aS base n A kv F w) {i : Nat} (hi : i < n) : A i < w.heap.size := (Array.getElem?_eq_some_iff.1 (h.node i hi)).1
theorem aS.ep (h : aS base n A kv F w) {i b : Nat} (hi : i < n) (hb : (kv i).ownBlock = some b) : base ≤ b ∧ b < w.heap.size := aF (h.own i hi) hb
theorem aS.name (h : aS base n A kv F w) {i : Nat} (hi : i < n) : w.cell? ⟨A i, 0, none⟩ = some (.string (F.nm i)) := by simp [World.cell?, h.node i hi]
theorem aS.je (h : aS base n A kv F w) {i : Nat} (hi : i < n) : w.cell? ⟨A i, 1, none⟩ = some (kv i) := by simp [World.cell?, h.node i hi]
theorem aS.Yi (h : aS base n A kv F w) {i : Nat} (hi : i < n) : w.cell? ⟨A i, 2, none⟩ = some (.int .i64 (F.old i)) := by simp [World.cell?, h.node i hi]
theorem aS.thaw (h : aS base n A kv F w) {i : Nat} (hi : i < n) (o : Nat) : w.frozen? ⟨A i, o, none⟩ = false := by simp [World.frozen?, h.node i hi]
theorem aS.same (h : aS base n A kv F w) (ha : ∀ i, i < n → w'.heap[A i]? = w.heap[A i]?) (hk : ∀ i b, i < n → (kv i).ownBlock = some b → w'.heap[b]? = w.heap[b]?) : aS base n A kv F w' :=
 ⟨fun i hi => by rw [ha i hi]; exact h.node i hi, h.lo, h.inj, fun i hi => (h.own i hi).same fun b hb => hk i b hi hb, h.apart, h.alone, h.kid⟩
theorem aS.kept (h : aS base n A kv F w) (k : ∀ b, base ≤ b → b < w.heap.size → w'.heap[b]? = w.heap[b]?) : aS base n A kv F w' :=
 h.same (fun i hi => k _ (h.lo i hi) (h.lt hi)) (fun _ _ hi hb => k _ (h.ep hi hb).1 (h.ep hi hb).2)
theorem aS.up (h : aS base n A kv F w) (k : Up w w') : aS base n A kv F w' := h.kept fun b _ hb => Below.block k b hb
theorem aS.put (h : aS base n A kv F w) {k : Nat} (hk : k < n) {v : Value} {ks : List Nat}
  (ha : ∀ i, i < n → i ≠ k → w'.heap[A i]? = w.heap[A i]?) (hn : w'.heap[A k]? = some (.cells #[.string (F.nm k), v, .int .i64 (F.old k)] 127 (0, 0)))
  (hv : aA base 124 w' v (ks.map (aL A))) (ho : ∀ i b, i < n → i ≠ k → (kv i).ownBlock = some b → w'.heap[b]? = w.heap[b]?)
  (hb : ∀ b, v.ownBlock = some b → (kv k).ownBlock = some b ∨ w.heap.size ≤ b) (hks : ∀ j ∈ ks, j < n) : aS base n A (upd kv k v) { F with kids := upd F.kids k ks } w' := by
 refine ⟨fun i hi => ?_, h.lo, h.inj, fun i hi => ?_, fun i j hi hj => ?_, fun i j b hi hj h1 h2 => ?_, fun i hi => ?_⟩
 ·by_cases e : i = k
  ·subst e; rw [upd_same]; exact hn
  ·rw [upd_ne _ _ e, ha i hi e]; exact h.node i hi
 ·by_cases e : i = k
  ·subst e; simp only [upd_same]; exact hv
  ·simp only [upd_ne _ _ e]; exact (h.own i hi).same fun b hb => ho i b hi e hb
 ·by_cases e : i = k
  ·subst e; rw [upd_same]; intro h3
   rcases hb _ h3 with h4 | h4
   ·exact h.apart i j hi hj h4
   ·exact absurd (h.lt hj) (by omega)
  ·rw [upd_ne _ _ e]; exact h.apart i j hi hj
 ·by_cases e1 : i = k
  ·by_cases e2 : j = k
   ·rw [e1, e2]
   ·subst e1
    rw [upd_same] at h1
    rw [upd_ne _ _ e2] at h2
    rcases hb _ h1 with h4 | h4
    ·exact h.alone i j b hi hj h4 h2
    ·exact absurd (h.ep hj h2).2 (by omega)
  ·by_cases e2 : j = k
   ·subst e2
    rw [upd_same] at h2
    rw [upd_ne _ _ e1] at h1
    rcases hb _ h2 with h4 | h4
    ·exact h.alone i j b hi hj h1 h4
    ·exact absurd (h.ep hi h1).2 (by omega)
   ·rw [upd_ne _ _ e1] at h1
    rw [upd_ne _ _ e2] at h2
    exact h.alone i j b hi hj h1 h2
 ·by_cases e : i = k
  ·subst e; simp only [upd_same]; exact hks
  ·simp only [upd_ne _ _ e]; exact h.kid i hi
theorem aS.AP (h : aS base n A kv F w) (hb : base ≤ w.heap.size) (nm : ByteArray) (old : Int) :
  aS base (n + 1) (upd A n w.heap.size) (upd kv n (.slice none 0 0)) ⟨upd F.nm n nm, upd F.old n old, upd F.kids n []⟩ (w.alloc (.cells #[.string nm, .slice none 0 0, .int .i64 old] 127)) := by
 have hne : ∀ i, i < n → i ≠ n := fun i hi => by omega
 have hmap : ∀ i, i < n → (F.kids i).map (aL (upd A n w.heap.size)) = (F.kids i).map (aL A) := fun i hi => by
  refine List.map_congr_left fun k hk => ?_
  unfold aL; rw [upd_ne _ _ (hne k (h.kid i hi k hk))]
 have fq : ∀ i, i < n + 1 → i < n ∨ i = n := fun i hi => by omega
 refine ⟨fun i hi => ?_, fun i hi => ?_, fun i j hi hj e => ?_, fun i hi => ?_, fun i j hi hj => ?_, fun i j b hi hj h1 h2 => ?_, fun i hi => ?_⟩
 ·rcases fq i hi with hi | rfl
  ·simp only [upd_ne _ _ (hne i hi)]; rw [blk_alloc_lt _ _ _ (h.lt hi)]; exact h.node i hi
  ·simp only [upd_same]; exact blk_alloc_new _ _
 ·rcases fq i hi with hi | rfl
  ·rw [upd_ne _ _ (hne i hi)]; exact h.lo i hi
  ·rw [upd_same]; exact hb
 ·rcases fq i hi with hi | rfl <;> rcases fq j hj with hj | rfl
  ·rw [upd_ne _ _ (hne i hi), upd_ne _ _ (hne j hj)] at e; exact h.inj i j hi hj e
  ·rw [upd_ne _ _ (hne i hi), upd_same] at e; have := h.lt hi; omega
  ·rw [upd_same, upd_ne _ _ (hne j hj)] at e; have := h.lt hj; omega
  ·rfl
 ·rcases fq i hi with hi | rfl
  ·simp only [upd_ne _ _ (hne i hi)]; rw [hmap i hi]; exact (h.own i hi).alloc _
  ·simp only [upd_same]; exact aA.nil _ _ _
 ·rcases fq i hi with hi | rfl
  ·rw [upd_ne _ _ (hne i hi)]
   rcases fq j hj with hj | rfl
   ·rw [upd_ne _ _ (hne j hj)]; exact h.apart i j hi hj
   ·rw [upd_same]; intro e; have := (h.ep hi e).2; omega
  ·rw [upd_same]; intro e; cases e
 ·rcases fq i hi with hi | rfl <;> rcases fq j hj with hj | rfl
  ·rw [upd_ne _ _ (hne i hi)] at h1; rw [upd_ne _ _ (hne j hj)] at h2; exact h.alone i j b hi hj h1 h2
  ·rw [upd_same] at h2; cases h2
  ·rw [upd_same] at h1; cases h1
  ·rfl
 ·rcases fq i hi with hi | rfl
  ·simp only [upd_ne _ _ (hne i hi)]; intro k hk; have := h.kid i hi k hk; omega
  ·simp only [upd_same]; intro k hk; cases hk
theorem aS.empty (base : Nat) (A : Nat → Nat) (kv : Nat → Value) (F : aP) (w : World) : aS base 0 A kv F w :=
 ⟨fun _ h => absurd h (Nat.not_lt_zero _), fun _ h => absurd h (Nat.not_lt_zero _), fun _ _ h => absurd h (Nat.not_lt_zero _), fun _ h => absurd h (Nat.not_lt_zero _), fun _ _ h => absurd h (Nat.not_lt_zero _), fun _ _ _ h => absurd h (Nat.not_lt_zero _), fun _ h => absurd h (Nat.not_lt_zero _)⟩
theorem aS.push (h : aS base n A kv F w) {k c : Nat} (hk : k < n) (hc : c < n) {v : Value} (hv : aA base 124 w' v ((F.kids k ++ [c]).map (aL A))) (hg : w.grownBy w' (kv k).ownBlock)
  (hb : ∀ b, v.ownBlock = some b → (kv k).ownBlock = some b ∨ w.heap.size ≤ b) : aS base n A (upd kv k v) { F with kids := upd F.kids k (F.kids k ++ [c]) } (w'.setCell ⟨A k, 1, none⟩ v) := by
 have hold : ∀ i, i < n → w'.heap[A i]? = w.heap[A i]? := fun i hi => hg.block (A i) (h.lt hi) (fun e => h.apart k i hk hi e.symm)
 have OT : ∀ b, v.ownBlock = some b → b ≠ A k := fun b hv2 e => by
  rcases hb b hv2 with h4 | h4
  ·exact h.apart k k hk hk (by rw [h4, e])
  ·have := h.lt hk; omega
 refine h.put hk (fun i hi e => ?_) ?_ (hv.same fun b hv2 => blk_setCell_other _ _ _ _ (OT b hv2)) (fun i b hi e hb2 => ?_) hb ?_
 ·rw [blk_setCell_other _ _ _ _ (fun e2 => e (h.inj i k hi hk e2))]; exact hold i hi
 ·have hn := hold k hk
  rw [h.node k hk] at hn
  simp [World.setCell, Array.getElem?_modify, hn]
 ·have hne : b ≠ A k := fun e2 => h.apart i k hi hk (by rw [hb2, e2])
  rw [blk_setCell_other _ _ _ _ hne]
  exact hg.block b (h.ep hi hb2).2 (fun e2 => e (h.alone i k b hi hk hb2 e2.symm))
 ·intro j hj
  rcases List.mem_append.1 hj with h1 | h1
  ·exact h.kid k hk j h1
  ·have : j = c := by simpa using h1
   omega
end
end
section
open Go.RowKit Go.Deep
def Small (l : List Int) : Prop := ∀ k, k < l.length → 0 ≤ gi l k ∧ gi l k < 32
end
section
open Go.RowKit Go.Deep
section
variable {P : Program} {ops : Array Oper} {rest : List Oper} {o : Oper} {a : Act} {Q : Exit → Act → World → Prop}
end
end
section
open Go.RowKit Go.Sort Go.Shelf Go.Deep
end
section
open Go.RowKit Go.Shelf Go.Deep Go.Sort
def jw (xs : List Int) : List Int := xs.mergeSort fun x y => decide (x ≤ y)
theorem yq (xs : List Int) : (jw xs).length = xs.length := List.length_mergeSort _
theorem Yj (w w1 : World) (v : Value) (xs : List Int) (hu : Up w w1) (ho : aA w.heap.size 3 w1 v (xs.map (Value.int .i64))) (hlen : xs.length ≤ 1000000) :
  Calls Tryz.prog 76 #[v] w1 fun e w' => e = .returned (.tuple #[]) ∧ Up w w' ∧ aA w.heap.size 3 w' v ((jw xs).map (Value.int .i64)) := by
 rcases ho.2 with ⟨rfl, h0⟩ | ⟨g, cap, cur, rfl, hg, hc, hn, hcm, hcs, ht⟩
 ·have hx : xs = [] := by cases xs with | nil => rfl | cons _ _ => simp at h0
  subst hx
  refine (AnyM.slices_Sort_int_none Tryz.sortZ none 0 w1).mono ?_
  rintro e w' ⟨rfl, rfl⟩
  exact ⟨rfl, hu, by unfold jw; simpa using ho⟩
 ·simp only [List.length_map] at hn ht ho ⊢
  refine (AnyM.slices_Sort_int Tryz.sortZ g 0 cap xs w1 (holds_of_blockI hc (by simpa using ht)) (Array.getElem?_eq_some_iff.1 hc).1 (by omega)).mono ?_
  rintro e w' ⟨rfl, n, os, rfl⟩
  refine ⟨rfl, Below.grown hu (grownBy_sortedI _) hu.size (fun j hj => by cases hj; exact hg), ?_⟩
  have h := ownsRow_sortedI (n := n) (os := os) (ss := xs) (ts := jw xs) (yq xs) hg hc hn hcm (by simpa using hcs)
  unfold aA
  rw [List.length_map, yq]
  exact h
end
section
open Go.RowKit Go.Shelf Go.Deep
attribute [local go_sem] Oper.semAt_some
theorem aA.Us {base : Nat} {e : TypeId} {w w' : World} {v : Value} {vs : List Value} (h : aA base e w v vs) (k : ∀ b, v.ownBlock = some b → w'.heap[b]? = w.heap[b]?) : aA base e w' v vs := by
 obtain ⟨hl, h | ⟨g, cap, cur, rfl, hg, hc, hr⟩⟩ := h
 ·exact ⟨hl, .inl h⟩
 ·exact ⟨hl, .inr ⟨g, cap, cur, rfl, hg, by rw [k g rfl]; exact hc, hr⟩⟩
theorem aA.GU {base : Nat} {e : TypeId} {w : World} {v : Value} {vs : List Value} (h : aA base e w v vs) {b : Nat} (hb : v.ownBlock = some b) : ∃ c, w.heap[b]? = some (Obj.cells c e (0, 0)) := by
 obtain ⟨_, ⟨rfl, _⟩ | ⟨g, cap, cur, rfl, _, hc, _⟩⟩ := h
 ·cases hb
 ·injection hb with hb; subst hb; exact ⟨cur, hc⟩

end
section
open Go.RowKit Go.Shelf Go.Deep
end
section
open Go.RowKit Go.Deep
end
section
open Go.RowKit Go.Deep
end
section
open Go.RowKit Go.Deep
end
section
open Go.RowKit Go.Deep
end
section
open Go.Sort
theorem mO : ∀ a b : List UInt8, Lib.compareBytes b a = - Lib.compareBytes a b
 | [], [] => rfl
 | [], _ :: _ => rfl
 | _ :: _, [] => rfl
 | a :: u, b :: v => by
  unfold Lib.compareBytes
  by_cases h1 : a < b
  ·have h2 : ¬ b < a := by rw [UInt8.lt_iff_toNat_lt] at *; omega
   simp [h1, h2]
  ·by_cases h2 : b < a
   ·simp [h1, h2]
   ·simp only [h1, h2, if_false]; exact mO u v
theorem oZ : ∀ {a b : List UInt8}, Lib.compareBytes a b = 0 → a = b
 | [], [], _ => rfl
 | [], _ :: _, h => by cases h
 | _ :: _, [], h => by cases h
 | a :: u, b :: v, h => by
  unfold Lib.compareBytes at h
  split at h
  ·cases h
  ·split at h
   ·cases h
   ·rename_i h1 h2
    have e : a = b := by
     apply UInt8.toNat.inj
     rw [UInt8.lt_iff_toNat_lt] at h1 h2; omega
    rw [e, oZ h]
theorem wj (a : List UInt8) : Lib.compareBytes a a = 0 := by have := mO a a; omega
theorem tR : ∀ {a b c : List UInt8}, Lib.compareBytes a b < 0 → Lib.compareBytes b c < 0 → Lib.compareBytes a c < 0
 | [], [], _, h, _ => by cases h
 | [], _ :: _, [], _, h => by cases h
 | [], _ :: _, _ :: _, _, _ => Int.negSucc_lt_zero 0
 | _ :: _, [], _, h, _ => by cases h
 | _ :: _, _ :: _, [], _, h => by cases h
 | a :: u, b :: v, c :: x, h, h' => by
  unfold Lib.compareBytes at *
  by_cases h1 : a < b
  ·by_cases h2 : b < c
   ·have h3 : a < c := by rw [UInt8.lt_iff_toNat_lt] at *; omega
    rw [if_pos h3]; decide
   ·rw [if_neg h2] at h'
    by_cases h3 : c < b
    ·rw [if_pos h3] at h'; cases h'
    ·have h4 : a < c := by rw [UInt8.lt_iff_toNat_lt] at *; omega
     rw [if_pos h4]; decide
  ·rw [if_neg h1] at h
   by_cases h2 : b < a
   ·rw [if_pos h2] at h; cases h
   ·rw [if_neg h2] at h
    have e : a = b := by
     apply UInt8.toNat.inj
     rw [UInt8.lt_iff_toNat_lt] at h1 h2; omega
    subst e
    by_cases h3 : a < c
    ·rw [if_pos h3]; decide
    ·rw [if_neg h3] at h' ⊢
     by_cases h4 : c < a
     ·rw [if_pos h4] at h'; cases h'
     ·rw [if_neg h4] at h' ⊢; exact tR h h'
def cz (a b : ByteArray) : Int := Lib.compareBytes a.data.toList b.data.toList
theorem gU (a b : ByteArray) : cz b a = - cz a b := mO _ _
theorem gV {a b : ByteArray} (h : cz a b = 0) : a = b := fc (oZ h)
theorem rz {a b c : ByteArray} (h : cz a b < 0) (h' : cz b c < 0) : cz a c < 0 := tR h h'
theorem Ev (a : ByteArray) : cz a a = 0 := wj _
def ny (f : Nat → ByteArray) (x y : Nat) : Bool := decide (cz (f x) (f y) ≤ 0)
def cH (f : Nat → ByteArray) (l : List Nat) : List Nat := l.mergeSort (ny f)
theorem Ew (f : Nat → ByteArray) (a b c : Nat) (h : ny f a b = true) (h' : ny f b c = true) : ny f a c = true := by
 unfold ny at *
 simp only [decide_eq_true_eq] at *
 by_cases h1 : cz (f a) (f b) = 0
 ·rw [gV h1]; exact h'
 ·by_cases h2 : cz (f b) (f c) = 0
  ·rw [← gV h2]; exact h
  ·have := rz (a := f a) (b := f b) (c := f c) (by omega) (by omega); omega
theorem Ex (f : Nat → ByteArray) (a b : Nat) : (ny f a b || ny f b a) = true := by
 unfold ny
 have := gU (f a) (f b)
 simp only [Bool.or_eq_true, decide_eq_true_eq]; omega
theorem eu (f : Nat → ByteArray) (l : List Nat) : (cH f l).Perm l := List.mergeSort_perm _ _
theorem sI (f : Nat → ByteArray) (l : List Nat) : (cH f l).Pairwise (fun a b => ny f a b = true) := List.pairwise_mergeSort (Ew f) (Ex f) l
theorem zY {f g : Nat → ByteArray} {l : List Nat} (h : ∀ x ∈ l, f x = g x) : cH f l = cH g l := by
 have := List.map_mergeSort (f := id) (r := ny f) (s := ny g) (l := l) (fun a ha b hb => by simp only [ny, id]; rw [h a ha, h b hb])
 simpa [cH] using this
def Sep (f : Nat → ByteArray) (l : List Nat) : Prop := ∀ x ∈ l, ∀ y ∈ l, f x = f y → x = y
theorem xA {f : Nat → ByteArray} {l l' : List Nat} (hp : l.Perm l') (hs : Sep f l) : cH f l = cH f l' := by
 refine List.Perm.eq_of_pairwise (le := fun a b => ny f a b = true) ?_ (sI f l) (sI f l') (((eu f l).trans hp).trans (eu f l').symm)
 intro a b ha hb h1 h2
 refine hs a ((eu f l).mem_iff.1 ha) b (hp.mem_iff.2 ((eu f l').mem_iff.1 hb)) (gV ?_)
 unfold ny at h1 h2
 simp only [decide_eq_true_eq] at h1 h2
 have := gU (f a) (f b); omega
structure Wf (F : aP) (n : Nat) (rk : Nat → Nat) : Prop where
 kid : ∀ i, i < n → ∀ k ∈ F.kids i, k < n ∧ rk k < rk i
def lsD (F : aP) : Nat → Nat → ByteArray
 | 0, i => F.nm i
 | d + 1, i => match cH (lsD F d) (F.kids i) with | [] => F.nm i | k :: _ => lsD F d k
theorem AQ {F : aP} {n : Nat} {rk : Nat → Nat} (h : Wf F n rk) : ∀ {d e i : Nat}, i < n → rk i ≤ d → rk i ≤ e → lsD F d i = lsD F e i := by
 intro d
 induction d with
 | zero =>
  intro e i hi hd he
  have hk : F.kids i = [] := by
   cases hk : F.kids i with
   | nil => rfl
   | cons k l => have := (h.kid i hi k (by rw [hk]; simp)).2; omega
  cases e with
  | zero => rfl
  | succ e => simp [lsD, hk, cH]
 | succ d ih =>
  intro e i hi hd he
  have hsame : ∀ e', rk i ≤ e' + 1 → cH (lsD F d) (F.kids i) = cH (lsD F e') (F.kids i) := fun e' he' => zY fun k hk => by
   have := h.kid i hi k hk
   exact ih this.1 (by omega) (by omega)
  cases e with
  | zero =>
   have hk : F.kids i = [] := by
    cases hk : F.kids i with
    | nil => rfl
    | cons k l => have := (h.kid i hi k (by rw [hk]; simp)).2; omega
   simp [lsD, hk, cH]
  | succ e =>
   simp only [lsD]
   rw [hsame e (by omega)]
   cases hc : cH (lsD F e) (F.kids i) with
   | nil => rfl
   | cons k l =>
    have hk : k ∈ F.kids i := (eu _ _).mem_iff.1 (by rw [hc]; simp)
    have := h.kid i hi k hk
    exact ih this.1 (by omega) (by omega)
def fD (F : aP) (rk : Nat → Nat) (i : Nat) : ByteArray := lsD F (rk i) i
theorem sJ {F : aP} {n : Nat} {rk : Nat → Nat} (h : Wf F n rk) {i : Nat} (hi : i < n) : fD F rk i = match cH (fD F rk) (F.kids i) with | [] => F.nm i | k :: _ => fD F rk k := by
 have h1 : fD F rk i = lsD F (rk i + 1) i := AQ h hi (Nat.le_refl _) (Nat.le_succ _)
 rw [h1]
 simp only [lsD]
 have hs : cH (lsD F (rk i)) (F.kids i) = cH (fD F rk) (F.kids i) := zY fun k hk => by
  have := h.kid i hi k hk
  exact AQ h this.1 (by omega) (Nat.le_refl _)
 rw [hs]
 cases hc : cH (fD F rk) (F.kids i) with
 | nil => rfl
 | cons k l =>
  have hk : k ∈ F.kids i := (eu _ _).mem_iff.1 (by rw [hc]; simp)
  have := h.kid i hi k hk
  exact AQ h this.1 (by omega) (Nat.le_refl _)
def subD (F : aP) : Nat → Nat → Nat → Bool
 | 0, i, j => j == i
 | d + 1, i, j => (j == i) || (F.kids i).any fun k => subD F d k j
def aM (F : aP) (rk : Nat → Nat) (i j : Nat) : Bool := subD F (rk i) i j
theorem yt {F : aP} {n : Nat} {rk : Nat → Nat} (h : Wf F n rk) : ∀ {d e i j : Nat}, i < n → rk i ≤ d → rk i ≤ e → subD F d i j = subD F e i j := by
 intro d
 induction d with
 | zero =>
  intro e i j hi hd he
  have hk : F.kids i = [] := by
   cases hk : F.kids i with
   | nil => rfl
   | cons k l => have := (h.kid i hi k (by rw [hk]; simp)).2; omega
  cases e with
  | zero => rfl
  | succ e => simp [subD, hk]
 | succ d ih =>
  intro e i j hi hd he
  cases e with
  | zero =>
   have hk : F.kids i = [] := by
    cases hk : F.kids i with
    | nil => rfl
    | cons k l => have := (h.kid i hi k (by rw [hk]; simp)).2; omega
   simp [subD, hk]
  | succ e =>
   simp only [subD]
   congr 1
   rw [Bool.eq_iff_iff, List.any_eq_true, List.any_eq_true]
   constructor
   ·rintro ⟨k, hk, h1⟩
    have := h.kid i hi k hk
    exact ⟨k, hk, by rw [← ih (e := e) this.1 (by omega) (by omega)]; exact h1⟩
   ·rintro ⟨k, hk, h1⟩
    have := h.kid i hi k hk
    exact ⟨k, hk, by rw [ih (e := e) this.1 (by omega) (by omega)]; exact h1⟩
theorem fh {F : aP} {n : Nat} {rk : Nat → Nat} (h : Wf F n rk) {i : Nat} (hi : i < n) (j : Nat) : aM F rk i j = ((j == i) || (F.kids i).any fun k => aM F rk k j) := by
 have h1 : aM F rk i j = subD F (rk i + 1) i j := yt h hi (Nat.le_refl _) (Nat.le_succ _)
 rw [h1]
 simp only [subD]
 congr 1
 rw [Bool.eq_iff_iff, List.any_eq_true, List.any_eq_true]
 constructor
 ·rintro ⟨k, hk, h1⟩
  have := h.kid i hi k hk
  exact ⟨k, hk, by unfold aM; rw [← yt h this.1 (d := rk i) (by omega) (Nat.le_refl _)]; exact h1⟩
 ·rintro ⟨k, hk, h1⟩
  have := h.kid i hi k hk
  exact ⟨k, hk, by rw [yt h this.1 (e := rk k) (by omega) (Nat.le_refl _)]; exact h1⟩
def aP.fU (F : aP) (rk : Nat → Nat) (p : Nat → Bool) : aP := { F with kids := fun i => if p i then cH (fD F rk) (F.kids i) else F.kids i }
theorem aP.gI (F : aP) (rk : Nat → Nat) (p : Nat → Bool) (i : Nat) : ((F.fU rk p).kids i).Perm (F.kids i) := by
 show (if p i then _ else _ : List Nat).Perm _
 split
 ·exact eu _ _
 ·exact List.Perm.refl _
end
section
open Go.RowKit Go.Deep
def Plain (w : World) (b : Nat) : Prop := ∃ c t, w.heap[b]? = some (.cells c t (0, 0)) ∧ 0 < c.size
section
variable {P : Program} {w : World}
theorem GV {a b : Nat} (ha : Plain w a) (hb : Plain w b) : (sameAddr ⟨a, 0, none⟩ ⟨b, 0, none⟩).run P w = .ok (decide (a = b)) w := by
 obtain ⟨ca, ta, ha, hca⟩ := ha
 obtain ⟨cb, tb, hb, hcb⟩ := hb
 by_cases h : a = b
 ·subst h; simp [sameAddr]
 ·have h1 : (a == b) = false := by simp [h]
  simp [sameAddr, h1, h, World.frozen?, ha, hb, noView, viewAt, mayBeOne, stringish, World.shape?, getObj, Sem.run, shape, frozen]
def pk : Option Nat → Value
 | none => .pointer none
 | some b => .pointer (some ⟨b, 0, none⟩)
def gm (w : World) : Option Nat → Prop
 | none => True
 | some b => Plain w b
theorem R1 {t e : TypeId} (ht : P.underlying t = some (.pointer e)) (he : ∀ w, (sizeOf e).run P w = .ok 3 w) {x y : Option Nat} (hx : gm w x) (hy : gm w y) (d : Nat) : (Op.equalIn (d + 1) t (pk x) (pk y)).run P w = .ok (decide (x = y)) w := by
 have hu := run_underlying (w := w) ht
 unfold Op.equalIn
 cases x with
 | none => cases y <;> simp [hu, pk]
 | some a =>
  cases y with
  | none => simp [hu, pk]
  | some b =>
   have h := GV (P := P) hx hy
   simp [hu, pk, he, h]
theorem K8 {t e : TypeId} (ht : P.underlying t = some (.pointer e)) (he : ∀ w, (sizeOf e).run P w = .ok 3 w) {x y : Option Nat} (hx : gm w x) (hy : gm w y) : (Op.equal t (pk x) (pk y)).run P w = .ok (decide (x = y)) w :=
 R1 ht he hx hy 9999
theorem MM {t e : TypeId} (ht : P.underlying t = some (.pointer e)) (he : ∀ w, (sizeOf e).run P w = .ok 3 w) {k : Option Nat} (hk : gm w k) : ∀ (es : List MapEntry) (l : List (Option Nat × Value)) (i : Nat),
  es.map (fun x => (x.key, x.val)) = l.map (fun x => (pk x.1, x.2)) → (∀ x ∈ l, gm w x.1) →
   (l.lookup k = none ∧ (Instr.findAsking t (pk k) es i).run P w = .ok none w) ∨ ∃ j v, l.lookup k = some v ∧ (Instr.findAsking t (pk k) es i).run P w = .ok (some (j, v)) w := by
 intro es
 induction es with
 | nil =>
  intro l i hl _
  cases l with
  | nil => exact .inl ⟨rfl, by simp [Instr.findAsking]⟩
  | cons => cases hl
 | cons x es ih =>
  intro l i hl hok
  cases l with
  | nil => cases hl
  | cons y l =>
   simp only [List.map_cons, List.cons.injEq, Prod.mk.injEq] at hl
   obtain ⟨⟨h1, h2⟩, h3⟩ := hl
   have heq := K8 (w := w) ht he hk (hok y (by simp))
   rw [← h1] at heq
   by_cases h : k = y.1
   ·subst h
    refine .inr ⟨i, y.2, ?_, ?_⟩
    ·obtain ⟨y1, y2⟩ := y; simp
    ·simp [Instr.findAsking, heq, h2]
   ·have hb : (k == y.1) = false := by simpa using h
    rcases ih l (i + 1) h3 (fun z hz => hok z (by simp [hz])) with ⟨h4, h5⟩ | ⟨j, v, h4, h5⟩
    ·refine .inl ⟨?_, by simp [Instr.findAsking, heq, h, h5]⟩
     obtain ⟨y1, y2⟩ := y
     rw [List.lookup_cons, hb]; exact h4
    ·refine .inr ⟨j, v, ?_, by simp [Instr.findAsking, heq, h, h5]⟩
     obtain ⟨y1, y2⟩ := y
     rw [List.lookup_cons, hb]; exact h4
def jB (w : World) (b : Nat) (l : List (Option Nat × Value)) : Prop := ∃ es clock, w.heap[b]? = some (.map es clock) ∧ es.toList.map (fun x => (x.key, x.val)) = l.map (fun x => (pk x.1, x.2))
theorem run_findKey {t e : TypeId} (ht : P.underlying t = some (.pointer e)) (he : ∀ w, (sizeOf e).run P w = .ok 3 w) {k : Option Nat} (hk : gm w k) (es : List MapEntry) (l : List (Option Nat × Value))
  (hl : es.map (fun x => (x.key, x.val)) = l.map (fun x => (pk x.1, x.2))) (hok : ∀ x ∈ l, gm w x.1) :
   (l.lookup k = none ∧ (Instr.findKey t (pk k) es).run P w = .ok none w) ∨ ∃ j v, l.lookup k = some v ∧ (Instr.findKey t (pk k) es).run P w = .ok (some (j, v)) w := by
 have hu := run_underlying (w := w) ht
 have h := MM ht he hk es l 0 hl hok
 cases es with
 | nil =>
  cases l with
  | nil => exact .inl ⟨rfl, by simp [Instr.findKey, hu, Instr.findNow]⟩
  | cons => cases hl
 | cons x es =>
  have hn : Instr.findNow (.pointer e) (pk k) (x :: es) 0 = none := by simp [Instr.findNow, Instr.sameNow]
  rcases h with ⟨h1, h2⟩ | ⟨j, v, h1, h2⟩
  ·exact .inl ⟨h1, by simp [Instr.findKey, hu, hn, h2]⟩
  ·exact .inr ⟨j, v, h1, by simp [Instr.findKey, hu, hn, h2]⟩
theorem run_checkKey {t e : TypeId} (ht : P.underlying t = some (.pointer e)) (em : Bool) (k : Option Nat) : (Instr.checkKey em 10000 t (pk k)).run P w = .ok () w := by
 have hu := run_underlying (w := w) ht
 show (Instr.checkKey em (9999 + 1) t (pk k)).run P w = _
 unfold Instr.checkKey
 cases k <;> simp [hu, pk]
theorem wk {mt t e el : TypeId} (hm : P.underlying mt = some (.map t el)) (ht : P.underlying t = some (.pointer e)) (he : ∀ w, (sizeOf e).run P w = .ok 3 w) {b : Nat} {l : List (Option Nat × Value)} (h : jB w b l) {k : Option Nat} {v : Value}
  (hk : gm w k) (hok : ∀ x ∈ l, gm w x.1) (hv : l.lookup k = some v) : (Instr.lookup mt (.map (some b)) (pk k) false).run P w = .ok v w := by
 obtain ⟨es, clock, hb, hl⟩ := h
 have hu := run_underlying (w := w) hm
 have hg := MapKept.run_getObj_map (P := P) hb
 rcases run_findKey ht he hk es.toList l hl hok with ⟨h1, h2⟩ | ⟨j, v', h1, h2⟩
 ·rw [h1] at hv; cases hv
 ·rw [h1] at hv; injection hv with hv; subst hv
  simp [Instr.lookup, hu, hg, run_checkKey ht, h2]
theorem GX {mt t e el : TypeId} (hm : P.underlying mt = some (.map t el)) (ht : P.underlying t = some (.pointer e)) (he : ∀ w, (sizeOf e).run P w = .ok 3 w) {b : Nat} {l : List (Option Nat × Value)} (h : jB w b l) {k : Option Nat} (v : Value)
  (hk : gm w k) (hok : ∀ x ∈ l, gm w x.1) (hv : l.lookup k = none) :
  ∃ w', (Instr.mapUpdate mt (.map (some b)) (pk k) v).run P w = .ok () w' ∧ jB w' b (l ++ [(k, v)]) ∧ w'.heap.size = w.heap.size ∧ w'.os = w.os ∧ w'.tape = w.tape ∧ w'.output = w.output ∧ ∀ j, j ≠ b → w'.heap[j]? = w.heap[j]? := by
 obtain ⟨es, clock, hb, hl⟩ := h
 have hu := run_underlying (w := w) hm
 have hg := MapKept.run_getObj_map (P := P) hb
 rcases run_findKey ht he hk es.toList l hl hok with ⟨h1, h2⟩ | ⟨j, v', h1, h2⟩
 ·have hs := MapKept.run_setObj_map (P := P) (.map (es.push { key := pk k, val := v, born := clock }) (clock + 1)) hb
  refine ⟨{ w with heap := w.heap.setIfInBounds b (.map (es.push { key := pk k, val := v, born := clock }) (clock + 1)) }, by simp [Instr.mapUpdate, hu, hg, run_checkKey ht, h2, hs], ⟨es.push { key := pk k, val := v, born := clock }, clock + 1, ?_, by simp [hl]⟩, by simp, rfl, rfl, rfl, fun j hj => ?_⟩
  ·have := (Array.getElem?_eq_some_iff.1 hb).1
   simp [this]
  ·simp [Ne.symm hj]
 ·rw [h1] at hv; cases hv
end
end
end Go.Proofs.YteegefnjnikngaaGreat
