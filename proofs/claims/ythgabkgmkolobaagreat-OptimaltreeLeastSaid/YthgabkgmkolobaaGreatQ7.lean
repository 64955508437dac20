/- Nodes that point at each other: how a forest lies in memory, and what keeps it. The plain .. -/
import Derived.Test.YthgabkgmkolobaaGreatQ1
import Derived.Test.YthgabkgmkolobaaGreatQ6
import Derived.Lib.Bytealg
import Derived.Sort.Statements
import Derived.MapKept
import Derived.Laws.Pointers
import Derived.Test.YthgabkgmkolobaaGreatQ2
import Derived.Shelf.SlGeneric
import Derived.Shelf.SlSortCmp.NoneTotal
import Derived.Test.YthgabkgmkolobaaGreatProg
set_option maxRecDepth 100000
namespace Go.Proofs.YthgabkgmkolobaaGreat
section
open Go.RowKit Go.Deep
structure aT where
 nm : Nat → ByteArray
 old : Nat → Int
 kids : Nat → List Nat
def bu (A : Nat → Nat) (k : Nat) : Value := .pointer (some ⟨A k, 0, none⟩)
def upd {α : Type} (f : Nat → α) (k : Nat) (x : α) (i : Nat) : α := if i = k then x else f i
theorem upd_same {α : Type} (f : Nat → α) (k : Nat) (x : α) : upd f k x k = x := by simp [upd]
theorem upd_ne {α : Type} (f : Nat → α) {k i : Nat} (x : α) (h : i ≠ k) : upd f k x i = f i := by simp [upd, h]
structure bq (base n : Nat) (A : Nat → Nat) (kv : Nat → Value) (F : aT) (w : World) : Prop where
 node : ∀ i, i < n → w.heap[A i]? = some (.cells #[.string (F.nm i), kv i, .int .i64 (F.old i)] 122 (0, 0))
 lo : ∀ i, i < n → base ≤ A i
 inj : ∀ i j, i < n → j < n → A i = A j → i = j
 own : ∀ i, i < n → aC base 119 w (kv i) ((F.kids i).map (bu A))
 apart : ∀ i j, i < n → j < n → (kv i).ownBlock ≠ some (A j)
 alone : ∀ i j b, i < n → j < n → (kv i).ownBlock = some b → (kv j).ownBlock = some b → i = j
 kid : ∀ i, i < n → ∀ k ∈ F.kids i, k < n
theorem aC.same {base : Nat} {e : TypeId} {w w' : World} {v : Value} {vs : List Value} (h : aC base e w v vs) (k : ∀ b, v.ownBlock = some b → w'.heap[b]? = w.heap[b]?) : aC base e w' v vs := by
 obtain ⟨hl, h | ⟨g, cap, cur, rfl, hg, hc, hr⟩⟩ := h
 ·exact ⟨hl, .inl h⟩
 ·exact ⟨hl, .inr ⟨g, cap, cur, rfl, hg, by rw [k g rfl]; exact hc, hr⟩⟩
theorem aC.xR {base base' : Nat} {e : TypeId} {w : World} {v : Value} {vs : List Value} (h : aC base e w v vs) (hb : base' ≤ base) : aC base' e w v vs := by
 obtain ⟨hl, h | ⟨g, cap, cur, rfl, hg, hc, hr⟩⟩ := h
 ·exact ⟨hl, .inl h⟩
 ·exact ⟨hl, .inr ⟨g, cap, cur, rfl, Nat.le_trans hb hg, hc, hr⟩⟩
section
variable {base n : Nat} {A : Nat → Nat} {kv : Nat → Value} {F : aT} {w w' : World}
theorem bq.lt (h : bq base n A kv F w) {i : Nat} (hi : i < n) : A i < w.heap.size := (Array.getElem?_eq_some_iff.1 (h.node i hi)).1
theorem bq.gu (h : bq base n A kv F w) {i b : Nat} (hi : i < n) (hb : (kv i).ownBlock = some b) : base ≤ b ∧ b < w.heap.size := aF (h.own i hi) hb
theorem bq.name (h : bq base n A kv F w) {i : Nat} (hi : i < n) : w.cell? ⟨A i, 0, none⟩ = some (.string (F.nm i)) := by simp [World.cell?, h.node i hi]
theorem bq.qo (h : bq base n A kv F w) {i : Nat} (hi : i < n) : w.cell? ⟨A i, 1, none⟩ = some (kv i) := by simp [World.cell?, h.node i hi]
theorem bq.thaw (h : bq base n A kv F w) {i : Nat} (hi : i < n) (o : Nat) : w.frozen? ⟨A i, o, none⟩ = false := by simp [World.frozen?, h.node i hi]
theorem bq.same (h : bq base n A kv F w) (ha : ∀ i, i < n → w'.heap[A i]? = w.heap[A i]?) (hk : ∀ i b, i < n → (kv i).ownBlock = some b → w'.heap[b]? = w.heap[b]?) : bq base n A kv F w' :=
 ⟨fun i hi => by rw [ha i hi]; exact h.node i hi, h.lo, h.inj, fun i hi => (h.own i hi).same fun b hb => hk i b hi hb, h.apart, h.alone, h.kid⟩
theorem bq.kept (h : bq base n A kv F w) (k : ∀ b, base ≤ b → b < w.heap.size → w'.heap[b]? = w.heap[b]?) : bq base n A kv F w' :=
 h.same (fun i hi => k _ (h.lo i hi) (h.lt hi)) (fun _ _ hi hb => k _ (h.gu hi hb).1 (h.gu hi hb).2)
theorem bq.up (h : bq base n A kv F w) (k : Up w w') : bq base n A kv F w' := h.kept fun b _ hb => Below.block k b hb
theorem bq.put (h : bq base n A kv F w) {k : Nat} (hk : k < n) {v : Value} {ks : List Nat}
  (ha : ∀ i, i < n → i ≠ k → w'.heap[A i]? = w.heap[A i]?) (hn : w'.heap[A k]? = some (.cells #[.string (F.nm k), v, .int .i64 (F.old k)] 122 (0, 0)))
  (hv : aC base 119 w' v (ks.map (bu A))) (ho : ∀ i b, i < n → i ≠ k → (kv i).ownBlock = some b → w'.heap[b]? = w.heap[b]?)
  (hb : ∀ b, v.ownBlock = some b → (kv k).ownBlock = some b ∨ w.heap.size ≤ b) (hks : ∀ j ∈ ks, j < n) : bq base n A (upd kv k v) { F with kids := upd F.kids k ks } w' := by
 refine ⟨fun i hi => ?_, h.lo, h.inj, fun i hi => ?_, fun i j hi hj => ?_, fun i j b hi hj h1 h2 => ?_, fun i hi => ?_⟩
 ·by_cases e : i = k
  ·subst e; rw [upd_same]; exact hn
  ·rw [upd_ne _ _ e, ha i hi e]; exact h.node i hi
 ·by_cases e : i = k
  ·subst e; simp only [upd_same]; exact hv
  ·simp only [upd_ne _ _ e]; exact (h.own i hi).same fun b hb => ho i b hi e hb
 ·by_cases e : i = k
  ·subst e; rw [upd_same]; intro h3
   rcases hb _ h3 with h4 | h4
   ·exact h.apart i j hi hj h4
   ·exact absurd (h.lt hj) (by omega)
  ·rw [upd_ne _ _ e]; exact h.apart i j hi hj
 ·by_cases e1 : i = k
  ·by_cases e2 : j = k
   ·rw [e1, e2]
   ·subst e1
    rw [upd_same] at h1
    rw [upd_ne _ _ e2] at h2
    rcases hb _ h1 with h4 | h4
    ·exact h.alone i j b hi hj h4 h2
    ·exact absurd (h.gu hj h2).2 (by omega)
  ·by_cases e2 : j = k
   ·subst e2
    rw [upd_same] at h2
    rw [upd_ne _ _ e1] at h1
    rcases hb _ h2 with h4 | h4
    ·exact h.alone i j b hi hj h1 h4
    ·exact absurd (h.gu hi h1).2 (by omega)
   ·rw [upd_ne _ _ e1] at h1
    rw [upd_ne _ _ e2] at h2
    exact h.alone i j b hi hj h1 h2
 ·by_cases e : i = k
  ·subst e; simp only [upd_same]; exact hks
  ·simp only [upd_ne _ _ e]; exact h.kid i hi
theorem bq.Ay (h : bq base n A kv F w) (hb : base ≤ w.heap.size) (nm : ByteArray) (old : Int) :
  bq base (n + 1) (upd A n w.heap.size) (upd kv n (.slice none 0 0)) ⟨upd F.nm n nm, upd F.old n old, upd F.kids n []⟩ (w.alloc (.cells #[.string nm, .slice none 0 0, .int .i64 old] 122)) := by
 have hne : ∀ i, i < n → i ≠ n := fun i hi => by omega
 have hmap : ∀ i, i < n → (F.kids i).map (bu (upd A n w.heap.size)) = (F.kids i).map (bu A) := fun i hi => by
  refine List.map_congr_left fun k hk => ?_
  unfold bu; rw [upd_ne _ _ (hne k (h.kid i hi k hk))]
 have mB : ∀ i, i < n + 1 → i < n ∨ i = n := fun i hi => by omega
 refine ⟨fun i hi => ?_, fun i hi => ?_, fun i j hi hj e => ?_, fun i hi => ?_, fun i j hi hj => ?_, fun i j b hi hj h1 h2 => ?_, fun i hi => ?_⟩
 ·rcases mB i hi with hi | rfl
  ·simp only [upd_ne _ _ (hne i hi)]; rw [blk_alloc_lt _ _ _ (h.lt hi)]; exact h.node i hi
  ·simp only [upd_same]; exact blk_alloc_new _ _
 ·rcases mB i hi with hi | rfl
  ·rw [upd_ne _ _ (hne i hi)]; exact h.lo i hi
  ·rw [upd_same]; exact hb
 ·rcases mB i hi with hi | rfl <;> rcases mB j hj with hj | rfl
  ·rw [upd_ne _ _ (hne i hi), upd_ne _ _ (hne j hj)] at e; exact h.inj i j hi hj e
  ·rw [upd_ne _ _ (hne i hi), upd_same] at e; have := h.lt hi; omega
  ·rw [upd_same, upd_ne _ _ (hne j hj)] at e; have := h.lt hj; omega
  ·rfl
 ·rcases mB i hi with hi | rfl
  ·simp only [upd_ne _ _ (hne i hi)]; rw [hmap i hi]; exact (h.own i hi).alloc _
  ·simp only [upd_same]; exact aC.nil _ _ _
 ·rcases mB i hi with hi | rfl
  ·rw [upd_ne _ _ (hne i hi)]
   rcases mB j hj with hj | rfl
   ·rw [upd_ne _ _ (hne j hj)]; exact h.apart i j hi hj
   ·rw [upd_same]; intro e; have := (h.gu hi e).2; omega
  ·rw [upd_same]; intro e; cases e
 ·rcases mB i hi with hi | rfl <;> rcases mB j hj with hj | rfl
  ·rw [upd_ne _ _ (hne i hi)] at h1; rw [upd_ne _ _ (hne j hj)] at h2; exact h.alone i j b hi hj h1 h2
  ·rw [upd_same] at h2; cases h2
  ·rw [upd_same] at h1; cases h1
  ·rfl
 ·rcases mB i hi with hi | rfl
  ·simp only [upd_ne _ _ (hne i hi)]; intro k hk; have := h.kid i hi k hk; omega
  ·simp only [upd_same]; intro k hk; cases hk
theorem bq.empty (base : Nat) (A : Nat → Nat) (kv : Nat → Value) (F : aT) (w : World) : bq base 0 A kv F w :=
 ⟨fun _ h => absurd h (Nat.not_lt_zero _), fun _ h => absurd h (Nat.not_lt_zero _), fun _ _ h => absurd h (Nat.not_lt_zero _), fun _ h => absurd h (Nat.not_lt_zero _), fun _ _ h => absurd h (Nat.not_lt_zero _), fun _ _ _ h => absurd h (Nat.not_lt_zero _), fun _ h => absurd h (Nat.not_lt_zero _)⟩
theorem bq.push (h : bq base n A kv F w) {k c : Nat} (hk : k < n) (hc : c < n) {v : Value} (hv : aC base 119 w' v ((F.kids k ++ [c]).map (bu A))) (hg : w.grownBy w' (kv k).ownBlock)
  (hb : ∀ b, v.ownBlock = some b → (kv k).ownBlock = some b ∨ w.heap.size ≤ b) : bq base n A (upd kv k v) { F with kids := upd F.kids k (F.kids k ++ [c]) } (w'.setCell ⟨A k, 1, none⟩ v) := by
 have hold : ∀ i, i < n → w'.heap[A i]? = w.heap[A i]? := fun i hi => hg.block (A i) (h.lt hi) (fun e => h.apart k i hk hi e.symm)
 have hnA : ∀ b, v.ownBlock = some b → b ≠ A k := fun b hv2 e => by
  rcases hb b hv2 with h4 | h4
  ·exact h.apart k k hk hk (by rw [h4, e])
  ·have := h.lt hk; omega
 refine h.put hk (fun i hi e => ?_) ?_ (hv.same fun b hv2 => blk_setCell_other _ _ _ _ (hnA b hv2)) (fun i b hi e hb2 => ?_) hb ?_
 ·rw [blk_setCell_other _ _ _ _ (fun e2 => e (h.inj i k hi hk e2))]; exact hold i hi
 ·have hn := hold k hk
  rw [h.node k hk] at hn
  simp [World.setCell, Array.getElem?_modify, hn]
 ·have hne : b ≠ A k := fun e2 => h.apart i k hi hk (by rw [hb2, e2])
  rw [blk_setCell_other _ _ _ _ hne]
  exact hg.block b (h.gu hi hb2).2 (fun e2 => e (h.alone i k b hi hk hb2 e2.symm))
 ·intro j hj
  rcases List.mem_append.1 hj with h1 | h1
  ·exact h.kid k hk j h1
  ·have : j = c := by simpa using h1
   omega
end
end
section
open Go.Sort
theorem kN : ∀ a b : List UInt8, Lib.compareBytes b a = - Lib.compareBytes a b
 | [], [] => rfl
 | [], _ :: _ => rfl
 | _ :: _, [] => rfl
 | a :: u, b :: v => by
  unfold Lib.compareBytes
  by_cases h1 : a < b
  ·have h2 : ¬ b < a := by rw [UInt8.lt_iff_toNat_lt] at *; omega
   simp [h1, h2]
  ·by_cases h2 : b < a
   ·simp [h1, h2]
   ·simp only [h1, h2, if_false]; exact kN u v
theorem oC : ∀ {a b : List UInt8}, Lib.compareBytes a b = 0 → a = b
 | [], [], _ => rfl
 | [], _ :: _, h => by cases h
 | _ :: _, [], h => by cases h
 | a :: u, b :: v, h => by
  unfold Lib.compareBytes at h
  split at h
  ·cases h
  ·split at h
   ·cases h
   ·rename_i h1 h2
    have e : a = b := by
     apply UInt8.toNat.inj
     rw [UInt8.lt_iff_toNat_lt] at h1 h2; omega
    rw [e, oC h]
theorem vF (a : List UInt8) : Lib.compareBytes a a = 0 := by have := kN a a; omega
theorem s8 : ∀ {a b c : List UInt8}, Lib.compareBytes a b < 0 → Lib.compareBytes b c < 0 → Lib.compareBytes a c < 0
 | [], [], _, h, _ => by cases h
 | [], _ :: _, [], _, h => by cases h
 | [], _ :: _, _ :: _, _, _ => Int.negSucc_lt_zero 0
 | _ :: _, [], _, h, _ => by cases h
 | _ :: _, _ :: _, [], _, h => by cases h
 | a :: u, b :: v, c :: x, h, h' => by
  unfold Lib.compareBytes at *
  by_cases h1 : a < b
  ·by_cases h2 : b < c
   ·have h3 : a < c := by rw [UInt8.lt_iff_toNat_lt] at *; omega
    rw [if_pos h3]; decide
   ·rw [if_neg h2] at h'
    by_cases h3 : c < b
    ·rw [if_pos h3] at h'; cases h'
    ·have h4 : a < c := by rw [UInt8.lt_iff_toNat_lt] at *; omega
     rw [if_pos h4]; decide
  ·rw [if_neg h1] at h
   by_cases h2 : b < a
   ·rw [if_pos h2] at h; cases h
   ·rw [if_neg h2] at h
    have e : a = b := by
     apply UInt8.toNat.inj
     rw [UInt8.lt_iff_toNat_lt] at h1 h2; omega
    subst e
    by_cases h3 : a < c
    ·rw [if_pos h3]; decide
    ·rw [if_neg h3] at h' ⊢
     by_cases h4 : c < a
     ·rw [if_pos h4] at h'; cases h'
     ·rw [if_neg h4] at h' ⊢; exact s8 h h'
def b9 (a b : ByteArray) : Int := Lib.compareBytes a.data.toList b.data.toList
theorem gA (a b : ByteArray) : b9 b a = - b9 a b := kN _ _
theorem gC {a b : ByteArray} (h : b9 a b = 0) : a = b := eL (oC h)
theorem qK {a b c : ByteArray} (h : b9 a b < 0) (h' : b9 b c < 0) : b9 a c < 0 := s8 h h'
theorem DY (a : ByteArray) : b9 a a = 0 := vF _
def mO (f : Nat → ByteArray) (x y : Nat) : Bool := decide (b9 (f x) (f y) ≤ 0)
def cA (f : Nat → ByteArray) (l : List Nat) : List Nat := l.mergeSort (mO f)
theorem DZ (f : Nat → ByteArray) (a b c : Nat) (h : mO f a b = true) (h' : mO f b c = true) : mO f a c = true := by
 unfold mO at *
 simp only [decide_eq_true_eq] at *
 by_cases h1 : b9 (f a) (f b) = 0
 ·rw [gC h1]; exact h'
 ·by_cases h2 : b9 (f b) (f c) = 0
  ·rw [← gC h2]; exact h
  ·have := qK (a := f a) (b := f b) (c := f c) (by omega) (by omega); omega
theorem D1 (f : Nat → ByteArray) (a b : Nat) : (mO f a b || mO f b a) = true := by
 unfold mO
 have := gA (f a) (f b)
 simp only [Bool.or_eq_true, decide_eq_true_eq]; omega
theorem dU (f : Nat → ByteArray) (l : List Nat) : (cA f l).Perm l := List.mergeSort_perm _ _
theorem rL (f : Nat → ByteArray) (l : List Nat) : (cA f l).Pairwise (fun a b => mO f a b = true) := List.pairwise_mergeSort (DZ f) (D1 f) l
theorem zO {f g : Nat → ByteArray} {l : List Nat} (h : ∀ x ∈ l, f x = g x) : cA f l = cA g l := by
 have := List.map_mergeSort (f := id) (r := mO f) (s := mO g) (l := l) (fun a ha b hb => by simp only [mO, id]; rw [h a ha, h b hb])
 simpa [cA] using this
def Sep (f : Nat → ByteArray) (l : List Nat) : Prop := ∀ x ∈ l, ∀ y ∈ l, f x = f y → x = y
theorem wU {f : Nat → ByteArray} {l l' : List Nat} (hp : l.Perm l') (hs : Sep f l) : cA f l = cA f l' := by
 refine List.Perm.eq_of_pairwise (le := fun a b => mO f a b = true) ?_ (rL f l) (rL f l') (((dU f l).trans hp).trans (dU f l').symm)
 intro a b ha hb h1 h2
 refine hs a ((dU f l).mem_iff.1 ha) b (hp.mem_iff.2 ((dU f l').mem_iff.1 hb)) (gC ?_)
 unfold mO at h1 h2
 simp only [decide_eq_true_eq] at h1 h2
 have := gA (f a) (f b); omega
structure Wf (F : aT) (n : Nat) (rk : Nat → Nat) : Prop where
 kid : ∀ i, i < n → ∀ k ∈ F.kids i, k < n ∧ rk k < rk i
def lsD (F : aT) : Nat → Nat → ByteArray
 | 0, i => F.nm i
 | d + 1, i => match cA (lsD F d) (F.kids i) with | [] => F.nm i | k :: _ => lsD F d k
theorem Az {F : aT} {n : Nat} {rk : Nat → Nat} (h : Wf F n rk) : ∀ {d e i : Nat}, i < n → rk i ≤ d → rk i ≤ e → lsD F d i = lsD F e i := by
 intro d
 induction d with
 | zero =>
  intro e i hi hd he
  have hk : F.kids i = [] := by
   cases hk : F.kids i with
   | nil => rfl
   | cons k l => have := (h.kid i hi k (by rw [hk]; simp)).2; omega
  cases e with
  | zero => rfl
  | succ e => simp [lsD, hk, cA]
 | succ d ih =>
  intro e i hi hd he
  have hsame : ∀ e', rk i ≤ e' + 1 → cA (lsD F d) (F.kids i) = cA (lsD F e') (F.kids i) := fun e' he' => zO fun k hk => by
   have := h.kid i hi k hk
   exact ih this.1 (by omega) (by omega)
  cases e with
  | zero =>
   have hk : F.kids i = [] := by
    cases hk : F.kids i with
    | nil => rfl
    | cons k l => have := (h.kid i hi k (by rw [hk]; simp)).2; omega
   simp [lsD, hk, cA]
  | succ e =>
   simp only [lsD]
   rw [hsame e (by omega)]
   cases hc : cA (lsD F e) (F.kids i) with
   | nil => rfl
   | cons k l =>
    have hk : k ∈ F.kids i := (dU _ _).mem_iff.1 (by rw [hc]; simp)
    have := h.kid i hi k hk
    exact ih this.1 (by omega) (by omega)
def fB (F : aT) (rk : Nat → Nat) (i : Nat) : ByteArray := lsD F (rk i) i
theorem rM {F : aT} {n : Nat} {rk : Nat → Nat} (h : Wf F n rk) {i : Nat} (hi : i < n) : fB F rk i = match cA (fB F rk) (F.kids i) with | [] => F.nm i | k :: _ => fB F rk k := by
 have h1 : fB F rk i = lsD F (rk i + 1) i := Az h hi (Nat.le_refl _) (Nat.le_succ _)
 rw [h1]
 simp only [lsD]
 have hs : cA (lsD F (rk i)) (F.kids i) = cA (fB F rk) (F.kids i) := zO fun k hk => by
  have := h.kid i hi k hk
  exact Az h this.1 (by omega) (Nat.le_refl _)
 rw [hs]
 cases hc : cA (fB F rk) (F.kids i) with
 | nil => rfl
 | cons k l =>
  have hk : k ∈ F.kids i := (dU _ _).mem_iff.1 (by rw [hc]; simp)
  have := h.kid i hi k hk
  exact Az h this.1 (by omega) (Nat.le_refl _)
def subD (F : aT) : Nat → Nat → Nat → Bool
 | 0, i, j => j == i
 | d + 1, i, j => (j == i) || (F.kids i).any fun k => subD F d k j
def bS (F : aT) (rk : Nat → Nat) (i j : Nat) : Bool := subD F (rk i) i j
theorem xS {F : aT} {n : Nat} {rk : Nat → Nat} (h : Wf F n rk) : ∀ {d e i j : Nat}, i < n → rk i ≤ d → rk i ≤ e → subD F d i j = subD F e i j := by
 intro d
 induction d with
 | zero =>
  intro e i j hi hd he
  have hk : F.kids i = [] := by
   cases hk : F.kids i with
   | nil => rfl
   | cons k l => have := (h.kid i hi k (by rw [hk]; simp)).2; omega
  cases e with
  | zero => rfl
  | succ e => simp [subD, hk]
 | succ d ih =>
  intro e i j hi hd he
  cases e with
  | zero =>
   have hk : F.kids i = [] := by
    cases hk : F.kids i with
    | nil => rfl
    | cons k l => have := (h.kid i hi k (by rw [hk]; simp)).2; omega
   simp [subD, hk]
  | succ e =>
   simp only [subD]
   congr 1
   rw [Bool.eq_iff_iff, List.any_eq_true, List.any_eq_true]
   constructor
   ·rintro ⟨k, hk, h1⟩
    have := h.kid i hi k hk
    exact ⟨k, hk, by rw [← ih (e := e) this.1 (by omega) (by omega)]; exact h1⟩
   ·rintro ⟨k, hk, h1⟩
    have := h.kid i hi k hk
    exact ⟨k, hk, by rw [ih (e := e) this.1 (by omega) (by omega)]; exact h1⟩
theorem gG {F : aT} {n : Nat} {rk : Nat → Nat} (h : Wf F n rk) {i : Nat} (hi : i < n) (j : Nat) : bS F rk i j = ((j == i) || (F.kids i).any fun k => bS F rk k j) := by
 have h1 : bS F rk i j = subD F (rk i + 1) i j := xS h hi (Nat.le_refl _) (Nat.le_succ _)
 rw [h1]
 simp only [subD]
 congr 1
 rw [Bool.eq_iff_iff, List.any_eq_true, List.any_eq_true]
 constructor
 ·rintro ⟨k, hk, h1⟩
  have := h.kid i hi k hk
  exact ⟨k, hk, by unfold bS; rw [← xS h this.1 (d := rk i) (by omega) (Nat.le_refl _)]; exact h1⟩
 ·rintro ⟨k, hk, h1⟩
  have := h.kid i hi k hk
  exact ⟨k, hk, by rw [xS h this.1 (e := rk k) (by omega) (Nat.le_refl _)]; exact h1⟩
def aT.iq (F : aT) (rk : Nat → Nat) (p : Nat → Bool) : aT := { F with kids := fun i => if p i then cA (fB F rk) (F.kids i) else F.kids i }
theorem aT.gP (F : aT) (rk : Nat → Nat) (p : Nat → Bool) (i : Nat) : ((F.iq rk p).kids i).Perm (F.kids i) := by
 show (if p i then _ else _ : List Nat).Perm _
 split
 ·exact dU _ _
 ·exact List.Perm.refl _
end
section
open Go.RowKit Go.Deep
def Plain (w : World) (b : Nat) : Prop := ∃ c t, w.heap[b]? = some (.cells c t (0, 0)) ∧ 0 < c.size
section
variable {P : Program} {w : World}
theorem Gg {a b : Nat} (ha : Plain w a) (hb : Plain w b) : (sameAddr ⟨a, 0, none⟩ ⟨b, 0, none⟩).run P w = .ok (decide (a = b)) w := by
 obtain ⟨ca, ta, ha, hca⟩ := ha
 obtain ⟨cb, tb, hb, hcb⟩ := hb
 by_cases h : a = b
 ·subst h; simp [sameAddr]
 ·have h1 : (a == b) = false := by simp [h]
  simp [sameAddr, h1, h, World.frozen?, ha, hb, noView, viewAt, mayBeOne, stringish, World.shape?, getObj, Sem.run, shape, frozen]
def pk : Option Nat → Value
 | none => .pointer none
 | some b => .pointer (some ⟨b, 0, none⟩)
def fI (w : World) : Option Nat → Prop
 | none => True
 | some b => Plain w b
theorem Rp {t e : TypeId} (ht : P.underlying t = some (.pointer e)) (he : ∀ w, (sizeOf e).run P w = .ok 3 w) {x y : Option Nat} (hx : fI w x) (hy : fI w y) (d : Nat) : (Op.equalIn (d + 1) t (pk x) (pk y)).run P w = .ok (decide (x = y)) w := by
 have hu := run_underlying (w := w) ht
 unfold Op.equalIn
 cases x with
 | none => cases y <;> simp [hu, pk]
 | some a =>
  cases y with
  | none => simp [hu, pk]
  | some b =>
   have h := Gg (P := P) hx hy
   simp [hu, pk, he, h]
theorem KU {t e : TypeId} (ht : P.underlying t = some (.pointer e)) (he : ∀ w, (sizeOf e).run P w = .ok 3 w) {x y : Option Nat} (hx : fI w x) (hy : fI w y) : (Op.equal t (pk x) (pk y)).run P w = .ok (decide (x = y)) w :=
 Rp ht he hx hy 9999
theorem Mj {t e : TypeId} (ht : P.underlying t = some (.pointer e)) (he : ∀ w, (sizeOf e).run P w = .ok 3 w) {k : Option Nat} (hk : fI w k) : ∀ (es : List MapEntry) (l : List (Option Nat × Value)) (i : Nat),
  es.map (fun x => (x.key, x.val)) = l.map (fun x => (pk x.1, x.2)) → (∀ x ∈ l, fI w x.1) →
   (l.lookup k = none ∧ (Instr.findAsking t (pk k) es i).run P w = .ok none w) ∨ ∃ j v, l.lookup k = some v ∧ (Instr.findAsking t (pk k) es i).run P w = .ok (some (j, v)) w := by
 intro es
 induction es with
 | nil =>
  intro l i hl _
  cases l with
  | nil => exact .inl ⟨rfl, by simp [Instr.findAsking]⟩
  | cons => cases hl
 | cons x es ih =>
  intro l i hl hok
  cases l with
  | nil => cases hl
  | cons y l =>
   simp only [List.map_cons, List.cons.injEq, Prod.mk.injEq] at hl
   obtain ⟨⟨h1, h2⟩, h3⟩ := hl
   have heq := KU (w := w) ht he hk (hok y (by simp))
   rw [← h1] at heq
   by_cases h : k = y.1
   ·subst h
    refine .inr ⟨i, y.2, ?_, ?_⟩
    ·obtain ⟨y1, y2⟩ := y; simp
    ·simp [Instr.findAsking, heq, h2]
   ·have hb : (k == y.1) = false := by simpa using h
    rcases ih l (i + 1) h3 (fun z hz => hok z (by simp [hz])) with ⟨h4, h5⟩ | ⟨j, v, h4, h5⟩
    ·refine .inl ⟨?_, by simp [Instr.findAsking, heq, h, h5]⟩
     obtain ⟨y1, y2⟩ := y
     rw [List.lookup_cons, hb]; exact h4
    ·refine .inr ⟨j, v, ?_, by simp [Instr.findAsking, heq, h, h5]⟩
     obtain ⟨y1, y2⟩ := y
     rw [List.lookup_cons, hb]; exact h4
def je (w : World) (b : Nat) (l : List (Option Nat × Value)) : Prop := ∃ es clock, w.heap[b]? = some (.map es clock) ∧ es.toList.map (fun x => (x.key, x.val)) = l.map (fun x => (pk x.1, x.2))
theorem run_findKey {t e : TypeId} (ht : P.underlying t = some (.pointer e)) (he : ∀ w, (sizeOf e).run P w = .ok 3 w) {k : Option Nat} (hk : fI w k) (es : List MapEntry) (l : List (Option Nat × Value))
  (hl : es.map (fun x => (x.key, x.val)) = l.map (fun x => (pk x.1, x.2))) (hok : ∀ x ∈ l, fI w x.1) :
   (l.lookup k = none ∧ (Instr.findKey t (pk k) es).run P w = .ok none w) ∨ ∃ j v, l.lookup k = some v ∧ (Instr.findKey t (pk k) es).run P w = .ok (some (j, v)) w := by
 have hu := run_underlying (w := w) ht
 have h := Mj ht he hk es l 0 hl hok
 cases es with
 | nil =>
  cases l with
  | nil => exact .inl ⟨rfl, by simp [Instr.findKey, hu, Instr.findNow]⟩
  | cons => cases hl
 | cons x es =>
  have hn : Instr.findNow (.pointer e) (pk k) (x :: es) 0 = none := by simp [Instr.findNow, Instr.sameNow]
  rcases h with ⟨h1, h2⟩ | ⟨j, v, h1, h2⟩
  ·exact .inl ⟨h1, by simp [Instr.findKey, hu, hn, h2]⟩
  ·exact .inr ⟨j, v, h1, by simp [Instr.findKey, hu, hn, h2]⟩
theorem run_checkKey {t e : TypeId} (ht : P.underlying t = some (.pointer e)) (em : Bool) (k : Option Nat) : (Instr.checkKey em 10000 t (pk k)).run P w = .ok () w := by
 have hu := run_underlying (w := w) ht
 show (Instr.checkKey em (9999 + 1) t (pk k)).run P w = _
 unfold Instr.checkKey
 cases k <;> simp [hu, pk]
theorem vG {mt t e el : TypeId} (hm : P.underlying mt = some (.map t el)) (ht : P.underlying t = some (.pointer e)) (he : ∀ w, (sizeOf e).run P w = .ok 3 w) {b : Nat} {l : List (Option Nat × Value)} (h : je w b l) {k : Option Nat} {v : Value}
  (hk : fI w k) (hok : ∀ x ∈ l, fI w x.1) (hv : l.lookup k = some v) : (Instr.lookup mt (.map (some b)) (pk k) false).run P w = .ok v w := by
 obtain ⟨es, clock, hb, hl⟩ := h
 have hu := run_underlying (w := w) hm
 have hg := MapKept.run_getObj_map (P := P) hb
 rcases run_findKey ht he hk es.toList l hl hok with ⟨h1, h2⟩ | ⟨j, v', h1, h2⟩
 ·rw [h1] at hv; cases hv
 ·rw [h1] at hv; injection hv with hv; subst hv
  simp [Instr.lookup, hu, hg, run_checkKey ht, h2]
theorem Gh {mt t e el : TypeId} (hm : P.underlying mt = some (.map t el)) (ht : P.underlying t = some (.pointer e)) (he : ∀ w, (sizeOf e).run P w = .ok 3 w) {b : Nat} {l : List (Option Nat × Value)} (h : je w b l) {k : Option Nat} (v : Value)
  (hk : fI w k) (hok : ∀ x ∈ l, fI w x.1) (hv : l.lookup k = none) :
  ∃ w', (Instr.mapUpdate mt (.map (some b)) (pk k) v).run P w = .ok () w' ∧ je w' b (l ++ [(k, v)]) ∧ w'.heap.size = w.heap.size ∧ w'.os = w.os ∧ w'.tape = w.tape ∧ w'.output = w.output ∧ ∀ j, j ≠ b → w'.heap[j]? = w.heap[j]? := by
 obtain ⟨es, clock, hb, hl⟩ := h
 have hu := run_underlying (w := w) hm
 have hg := MapKept.run_getObj_map (P := P) hb
 rcases run_findKey ht he hk es.toList l hl hok with ⟨h1, h2⟩ | ⟨j, v', h1, h2⟩
 ·have hs := MapKept.run_setObj_map (P := P) (.map (es.push { key := pk k, val := v, born := clock }) (clock + 1)) hb
  refine ⟨{ w with heap := w.heap.setIfInBounds b (.map (es.push { key := pk k, val := v, born := clock }) (clock + 1)) }, by simp [Instr.mapUpdate, hu, hg, run_checkKey ht, h2, hs], ⟨es.push { key := pk k, val := v, born := clock }, clock + 1, ?_, by simp [hl]⟩, by simp, rfl, rfl, rfl, fun j hj => ?_⟩
  ·have := (Array.getElem?_eq_some_iff.1 hb).1
   simp [this]
  ·simp [Ne.symm hj]
 ·rw [h1] at hv; cases hv
end
end
section
open Go.RowKit Go.Deep
theorem Tryz.rN : ∀ w, (Go.sizeOf 122).run Tryz.prog w = .ok 3 w := Tryz.sizeOf122
structure kA (n : Nat) (A : Nat → Nat) (kv : Nat → Value) (w w' : World) : Prop where
 os : w'.os = w.os
 tape : w'.tape = w.tape
 output : w'.output = w.output
 size : w.heap.size ≤ w'.heap.size
 block : ∀ b, b < w.heap.size → (∀ i, i < n → b ≠ A i) → (∀ i, i < n → (kv i).ownBlock ≠ some b) → w'.heap[b]? = w.heap[b]?
section
variable {n base : Nat} {A : Nat → Nat} {kv : Nat → Value} {F : aT} {a b c : World}
theorem kA.refl (n : Nat) (A : Nat → Nat) (kv : Nat → Value) (w : World) : kA n A kv w w := ⟨rfl, rfl, rfl, Nat.le_refl _, fun _ _ _ _ => rfl⟩
theorem kA.trans (h : kA n A kv a b) (k : kA n A kv b c) : kA n A kv a c :=
 ⟨k.os.trans h.os, k.tape.trans h.tape, k.output.trans h.output, Nat.le_trans h.size k.size, fun j hj h1 h2 => (k.block j (Nat.lt_of_lt_of_le hj h.size) h1 h2).trans (h.block j hj h1 h2)⟩
theorem kA.of_up (h : Up a b) : kA n A kv a b := ⟨h.os, h.tape, h.output, h.size, fun j hj _ _ => Below.block h j hj⟩
theorem kA.below (h : kA n A kv a b) (hF : bq base n A kv F a) (hb : base ≤ a.heap.size) : Below base a b :=
 ⟨h.os, h.tape, h.output, h.size, fun j hj => h.block j (by omega) (fun i hi e => by have := hF.lo i hi; omega) (fun i hi e => by have := (hF.gu hi e).1; omega)⟩
end
set_option maxHeartbeats 400000 in
theorem Oj (w : World) (bx m0 x y : Nat) (l : List (Option Nat × Value)) (sx sy : ByteArray) (gL : w.cell? ⟨bx, 0, none⟩ = some (.map (some m0))) (hm : je w m0 l) (hok : ∀ z ∈ l, fI w z.1) (hx : Plain w x) (hy : Plain w y)
  (h1 : l.lookup (some x) = some (.string sx)) (h2 : l.lookup (some y) = some (.string sy)) :
  Calls Tryz.prog 241 #[.pointer (some ⟨x, 0, none⟩), .pointer (some ⟨y, 0, none⟩), .pointer (some ⟨bx, 0, none⟩)] w fun e w' => e = .returned (.int .i64 (b9 sx sy)) ∧ w = w' := by
 have g1 := vG (P := Tryz.prog) Tryz.underlying245 Tryz.underlying119 Tryz.rN hm (k := some x) hx hok h1
 have g2 := vG (P := Tryz.prog) Tryz.underlying245 Tryz.underlying119 Tryz.rN hm (k := some y) hy hok h2
 simp only [pk] at g1 g2
 clear hm hok hx hy h1 h2
 go_enter Tryz.func241, Tryz.ntmps241
 go_wp2_with (go_at_call 242; refine (Tryz.strings_Compare sx sy _).mono ?_; rintro e w' ⟨rfl, rfl⟩)
 go_ret
 exact ⟨rfl, rfl⟩
end
end Go.Proofs.YthgabkgmkolobaaGreat
namespace Go.Proofs
open Go.Shelf
def Tryz.sortNode_ren : Go.Shelf.Ren := ⟨fun | 6 => 240 | 15 => 127 | 14 => 271 | 28 => 181 | 29 => 182 | 20 => 281 | 21 => 282 | 22 => 283 | 23 => 284 | 24 => 285 | 25 => 286 | 26 => 287 | 27 => 288 | 46 => 291 | 47 => 235 | 48 => 236 | 49 => 292 | 50 => 293 | 57 => 294 | n => n, fun | 22 => 120 | 24 => 119 | 25 => 247 | 3 => 3 | 39 => 154 | 0 => 0 | 53 => 191 | 55 => 193 | 4 => 4 | 46 => 183 | 45 => 182 | 50 => 188 | 5 => 5 | 9 => 9 | 66 => 238 | 70 => 242 | 76 => 267 | 77 => 177 | n => n, fun | n => n⟩
theorem Tryz.sortNode : Go.Proofs.SlLaysF.n6 Tryz.prog Tryz.sortNode_ren := {
 mixed := by kernel_rfl
 f6 := ⟨Tryz.f240.name, by decide, Tryz.func240.trans (congrArg some (by kernel_rfl))⟩
 f14 := ⟨Tryz.f271.name, by decide, Tryz.func271.trans (congrArg some (by kernel_rfl))⟩
 f15 := Tryz.func127.trans (congrArg some (by kernel_rfl))
 f20 := ⟨Tryz.f281.name, by decide, Tryz.func281.trans (congrArg some (by kernel_rfl))⟩
 f21 := ⟨Tryz.f282.name, by decide, Tryz.func282.trans (congrArg some (by kernel_rfl))⟩
 f22 := ⟨Tryz.f283.name, by decide, Tryz.func283.trans (congrArg some (by kernel_rfl))⟩
 f23 := ⟨Tryz.f284.name, by decide, Tryz.func284.trans (congrArg some (by kernel_rfl))⟩
 f24 := ⟨Tryz.f285.name, by decide, Tryz.func285.trans (congrArg some (by kernel_rfl))⟩
 f25 := ⟨Tryz.f286.name, by decide, Tryz.func286.trans (congrArg some (by kernel_rfl))⟩
 f26 := ⟨Tryz.f287.name, by decide, Tryz.func287.trans (congrArg some (by kernel_rfl))⟩
 f27 := ⟨Tryz.f288.name, by decide, Tryz.func288.trans (congrArg some (by kernel_rfl))⟩
 f28 := Tryz.func181.trans (congrArg some (by kernel_rfl))
 f29 := Tryz.func182.trans (congrArg some (by kernel_rfl))
 f46 := ⟨Tryz.f291.name, by decide, Tryz.func291.trans (congrArg some (by kernel_rfl))⟩
 f47 := Tryz.func235.trans (congrArg some (by kernel_rfl))
 f48 := Tryz.func236.trans (congrArg some (by kernel_rfl))
 f49 := ⟨Tryz.f292.name, by decide, Tryz.func292.trans (congrArg some (by kernel_rfl))⟩
 f50 := ⟨Tryz.f293.name, by decide, Tryz.func293.trans (congrArg some (by kernel_rfl))⟩
 f57 := ⟨Tryz.f294.name, by decide, Tryz.func294.trans (congrArg some (by kernel_rfl))⟩
 t0 := Tryz.underlying0
 a0 := Tryz.isAgg0
 z0 := Tryz.sizeOf0
 v0 := Tryz.zeroValue0
 t3 := Tryz.underlying3
 a3 := Tryz.isAgg3
 z3 := Tryz.sizeOf3
 v3 := Tryz.zeroValue3
 t4 := Tryz.underlying4
 a4 := Tryz.isAgg4
 z4 := Tryz.sizeOf4
 v4 := Tryz.zeroValue4
 t5 := Tryz.underlying5
 a5 := Tryz.isAgg5
 z5 := Tryz.sizeOf5
 v5 := Tryz.zeroValue5
 t9 := Tryz.underlying9
 a9 := Tryz.isAgg9
 z9 := Tryz.sizeOf9
 v9 := Tryz.zeroValue9
 t22 := Tryz.underlying120
 a22 := Tryz.isAgg120
 z22 := Tryz.sizeOf120
 v22 := Tryz.zeroValue120
 a24 := Tryz.isAgg119
 z24 := Tryz.sizeOf119
 t25 := Tryz.underlying247
 a25 := Tryz.isAgg247
 z25 := Tryz.sizeOf247
 v25 := Tryz.zeroValue247
 t39 := Tryz.underlying154
 a39 := Tryz.isAgg154
 z39 := Tryz.sizeOf154
 v39 := Tryz.zeroValue154
 t45 := Tryz.underlying182
 a45 := Tryz.isAgg182
 z45 := Tryz.sizeOf182
 v45 := Tryz.zeroValue182
 t46 := Tryz.underlying183
 a46 := Tryz.isAgg183
 z46 := Tryz.sizeOf183
 v46 := Tryz.zeroValue183
 t50 := Tryz.underlying188
 a50 := Tryz.isAgg188
 z50 := Tryz.sizeOf188
 v50 := Tryz.zeroValue188
 t53 := Tryz.underlying191
 a53 := Tryz.isAgg191
 z53 := Tryz.sizeOf191
 v53 := Tryz.zeroValue191
 t55 := Tryz.underlying193
 a55 := Tryz.isAgg193
 z55 := Tryz.sizeOf193
 v55 := Tryz.zeroValue193
 t66 := Tryz.underlying238
 a66 := Tryz.isAgg238
 z66 := Tryz.sizeOf238
 v66 := Tryz.zeroValue238
 t70 := Tryz.underlying242
 a70 := Tryz.isAgg242
 z70 := Tryz.sizeOf242
 v70 := Tryz.zeroValue242
 t76 := Tryz.underlying267
 a76 := Tryz.isAgg267
 z76 := Tryz.sizeOf267
 v76 := Tryz.zeroValue267
 t77 := Tryz.underlying177
 a77 := Tryz.isAgg177
 z77 := Tryz.sizeOf177
 v77 := Tryz.zeroValue177 }
end Go.Proofs
