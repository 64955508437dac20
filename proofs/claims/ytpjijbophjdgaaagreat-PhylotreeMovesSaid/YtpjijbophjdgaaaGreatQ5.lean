/- Nodes that point at each other: how a forest lies in memory, and what keeps it. The plain law of the order of children: names compared, the least name below a node, children sorted. -/
import Derived.Test.YtpjijbophjdgaaaGreatQ4
import Derived.Lib.Bytealg
import Derived.Sort.Statements
namespace Go.Proofs.YtpjijbophjdgaaaGreat
open Go.RowKit Go.Deep
structure Frs where
  nm : Nat → ByteArray
  old : Nat → Int
  kids : Nat → List Nat
def nptr (A : Nat → Nat) (k : Nat) : Value := .pointer (some ⟨A k, 0, none⟩)
def upd {α : Type} (f : Nat → α) (k : Nat) (x : α) (i : Nat) : α := if i = k then x else f i
theorem upd_same {α : Type} (f : Nat → α) (k : Nat) (x : α) : upd f k x k = x := by simp [upd]
theorem upd_ne {α : Type} (f : Nat → α) {k i : Nat} (x : α) (h : i ≠ k) : upd f k x i = f i := by simp [upd, h]
structure FAt (base n : Nat) (A : Nat → Nat) (kv : Nat → Value) (F : Frs) (w : World) : Prop where
  node : ∀ i, i < n → w.heap[A i]? = some (.cells #[.string (F.nm i), kv i, .int .i64 (F.old i)] 115 (0, 0))
  lo : ∀ i, i < n → base ≤ A i
  inj : ∀ i j, i < n → j < n → A i = A j → i = j
  own : ∀ i, i < n → Owns base 113 w (kv i) ((F.kids i).map (nptr A))
  apart : ∀ i j, i < n → j < n → (kv i).ownBlock ≠ some (A j)
  alone : ∀ i j b, i < n → j < n → (kv i).ownBlock = some b → (kv j).ownBlock = some b → i = j
  kid : ∀ i, i < n → ∀ k ∈ F.kids i, k < n
theorem Owns.same {base : Nat} {e : TypeId} {w w' : World} {v : Value} {vs : List Value} (h : Owns base e w v vs) (k : ∀ b, v.ownBlock = some b → w'.heap[b]? = w.heap[b]?) : Owns base e w' v vs := by
  obtain ⟨hl, h | ⟨g, cap, cur, rfl, hg, hc, hr⟩⟩ := h
  · exact ⟨hl, .inl h⟩
  · exact ⟨hl, .inr ⟨g, cap, cur, rfl, hg, by rw [k g rfl]; exact hc, hr⟩⟩
theorem Owns.mono_base {base base' : Nat} {e : TypeId} {w : World} {v : Value} {vs : List Value} (h : Owns base e w v vs) (hb : base' ≤ base) : Owns base' e w v vs := by
  obtain ⟨hl, h | ⟨g, cap, cur, rfl, hg, hc, hr⟩⟩ := h
  · exact ⟨hl, .inl h⟩
  · exact ⟨hl, .inr ⟨g, cap, cur, rfl, Nat.le_trans hb hg, hc, hr⟩⟩
section
variable {base n : Nat} {A : Nat → Nat} {kv : Nat → Value} {F : Frs} {w w' : World}
theorem FAt.lt (h : FAt base n A kv F w) {i : Nat} (hi : i < n) : A i < w.heap.size := (Array.getElem?_eq_some_iff.1 (h.node i hi)).1
theorem FAt.ownlt (h : FAt base n A kv F w) {i b : Nat} (hi : i < n) (hb : (kv i).ownBlock = some b) : base ≤ b ∧ b < w.heap.size := ownBlock_lt (h.own i hi) hb
theorem FAt.name (h : FAt base n A kv F w) {i : Nat} (hi : i < n) : w.cell? ⟨A i, 0, none⟩ = some (.string (F.nm i)) := by simp [World.cell?, h.node i hi]
theorem FAt.kidv (h : FAt base n A kv F w) {i : Nat} (hi : i < n) : w.cell? ⟨A i, 1, none⟩ = some (kv i) := by simp [World.cell?, h.node i hi]
theorem FAt.oldc (h : FAt base n A kv F w) {i : Nat} (hi : i < n) : w.cell? ⟨A i, 2, none⟩ = some (.int .i64 (F.old i)) := by simp [World.cell?, h.node i hi]
theorem FAt.thaw (h : FAt base n A kv F w) {i : Nat} (hi : i < n) (o : Nat) : w.frozen? ⟨A i, o, none⟩ = false := by simp [World.frozen?, h.node i hi]
theorem FAt.same (h : FAt base n A kv F w) (ha : ∀ i, i < n → w'.heap[A i]? = w.heap[A i]?) (hk : ∀ i b, i < n → (kv i).ownBlock = some b → w'.heap[b]? = w.heap[b]?) : FAt base n A kv F w' :=
  ⟨fun i hi => by rw [ha i hi]; exact h.node i hi, h.lo, h.inj, fun i hi => (h.own i hi).same fun b hb => hk i b hi hb, h.apart, h.alone, h.kid⟩
theorem FAt.kept (h : FAt base n A kv F w) (k : ∀ b, base ≤ b → b < w.heap.size → w'.heap[b]? = w.heap[b]?) : FAt base n A kv F w' :=
  h.same (fun i hi => k _ (h.lo i hi) (h.lt hi)) (fun _ _ hi hb => k _ (h.ownlt hi hb).1 (h.ownlt hi hb).2)
theorem FAt.up (h : FAt base n A kv F w) (k : Up w w') : FAt base n A kv F w' := h.kept fun b _ hb => Below.block k b hb
theorem FAt.put (h : FAt base n A kv F w) {k : Nat} (hk : k < n) {v : Value} {ks : List Nat}
    (ha : ∀ i, i < n → i ≠ k → w'.heap[A i]? = w.heap[A i]?) (hn : w'.heap[A k]? = some (.cells #[.string (F.nm k), v, .int .i64 (F.old k)] 115 (0, 0)))
    (hv : Owns base 113 w' v (ks.map (nptr A))) (ho : ∀ i b, i < n → i ≠ k → (kv i).ownBlock = some b → w'.heap[b]? = w.heap[b]?)
    (hb : ∀ b, v.ownBlock = some b → (kv k).ownBlock = some b ∨ w.heap.size ≤ b) (hks : ∀ j ∈ ks, j < n) : FAt base n A (upd kv k v) { F with kids := upd F.kids k ks } w' := by
  refine ⟨fun i hi => ?_, h.lo, h.inj, fun i hi => ?_, fun i j hi hj => ?_, fun i j b hi hj h1 h2 => ?_, fun i hi => ?_⟩
  · by_cases e : i = k
    · subst e; rw [upd_same]; exact hn
    · rw [upd_ne _ _ e, ha i hi e]; exact h.node i hi
  · by_cases e : i = k
    · subst e; simp only [upd_same]; exact hv
    · simp only [upd_ne _ _ e]; exact (h.own i hi).same fun b hb => ho i b hi e hb
  · by_cases e : i = k
    · subst e; rw [upd_same]; intro h3
      rcases hb _ h3 with h4 | h4
      · exact h.apart i j hi hj h4
      · exact absurd (h.lt hj) (by omega)
    · rw [upd_ne _ _ e]; exact h.apart i j hi hj
  · by_cases e1 : i = k
    · by_cases e2 : j = k
      · rw [e1, e2]
      · subst e1
        rw [upd_same] at h1
        rw [upd_ne _ _ e2] at h2
        rcases hb _ h1 with h4 | h4
        · exact h.alone i j b hi hj h4 h2
        · exact absurd (h.ownlt hj h2).2 (by omega)
    · by_cases e2 : j = k
      · subst e2
        rw [upd_same] at h2
        rw [upd_ne _ _ e1] at h1
        rcases hb _ h2 with h4 | h4
        · exact h.alone i j b hi hj h1 h4
        · exact absurd (h.ownlt hi h1).2 (by omega)
      · rw [upd_ne _ _ e1] at h1
        rw [upd_ne _ _ e2] at h2
        exact h.alone i j b hi hj h1 h2
  · by_cases e : i = k
    · subst e; simp only [upd_same]; exact hks
    · simp only [upd_ne _ _ e]; exact h.kid i hi
theorem FAt.node_new (h : FAt base n A kv F w) (hb : base ≤ w.heap.size) (nm : ByteArray) (old : Int) :
    FAt base (n + 1) (upd A n w.heap.size) (upd kv n (.slice none 0 0)) ⟨upd F.nm n nm, upd F.old n old, upd F.kids n []⟩ (w.alloc (.cells #[.string nm, .slice none 0 0, .int .i64 old] 115)) := by
  have hne : ∀ i, i < n → i ≠ n := fun i hi => by omega
  have hmap : ∀ i, i < n → (F.kids i).map (nptr (upd A n w.heap.size)) = (F.kids i).map (nptr A) := fun i hi => by
    refine List.map_congr_left fun k hk => ?_
    unfold nptr; rw [upd_ne _ _ (hne k (h.kid i hi k hk))]
  have hcase : ∀ i, i < n + 1 → i < n ∨ i = n := fun i hi => by omega
  refine ⟨fun i hi => ?_, fun i hi => ?_, fun i j hi hj e => ?_, fun i hi => ?_, fun i j hi hj => ?_, fun i j b hi hj h1 h2 => ?_, fun i hi => ?_⟩
  · rcases hcase i hi with hi | rfl
    · simp only [upd_ne _ _ (hne i hi)]; rw [blk_alloc_lt _ _ _ (h.lt hi)]; exact h.node i hi
    · simp only [upd_same]; exact blk_alloc_new _ _
  · rcases hcase i hi with hi | rfl
    · rw [upd_ne _ _ (hne i hi)]; exact h.lo i hi
    · rw [upd_same]; exact hb
  · rcases hcase i hi with hi | rfl <;> rcases hcase j hj with hj | rfl
    · rw [upd_ne _ _ (hne i hi), upd_ne _ _ (hne j hj)] at e; exact h.inj i j hi hj e
    · rw [upd_ne _ _ (hne i hi), upd_same] at e; have := h.lt hi; omega
    · rw [upd_same, upd_ne _ _ (hne j hj)] at e; have := h.lt hj; omega
    · rfl
  · rcases hcase i hi with hi | rfl
    · simp only [upd_ne _ _ (hne i hi)]; rw [hmap i hi]; exact (h.own i hi).alloc _
    · simp only [upd_same]; exact Owns.nil _ _ _
  · rcases hcase i hi with hi | rfl
    · rw [upd_ne _ _ (hne i hi)]
      rcases hcase j hj with hj | rfl
      · rw [upd_ne _ _ (hne j hj)]; exact h.apart i j hi hj
      · rw [upd_same]; intro e; have := (h.ownlt hi e).2; omega
    · rw [upd_same]; intro e; cases e
  · rcases hcase i hi with hi | rfl <;> rcases hcase j hj with hj | rfl
    · rw [upd_ne _ _ (hne i hi)] at h1; rw [upd_ne _ _ (hne j hj)] at h2; exact h.alone i j b hi hj h1 h2
    · rw [upd_same] at h2; cases h2
    · rw [upd_same] at h1; cases h1
    · rfl
  · rcases hcase i hi with hi | rfl
    · simp only [upd_ne _ _ (hne i hi)]; intro k hk; have := h.kid i hi k hk; omega
    · simp only [upd_same]; intro k hk; cases hk
theorem FAt.empty (base : Nat) (A : Nat → Nat) (kv : Nat → Value) (F : Frs) (w : World) : FAt base 0 A kv F w :=
  ⟨fun _ h => absurd h (Nat.not_lt_zero _), fun _ h => absurd h (Nat.not_lt_zero _), fun _ _ h => absurd h (Nat.not_lt_zero _), fun _ h => absurd h (Nat.not_lt_zero _), fun _ _ h => absurd h (Nat.not_lt_zero _), fun _ _ _ h => absurd h (Nat.not_lt_zero _), fun _ h => absurd h (Nat.not_lt_zero _)⟩
theorem FAt.push (h : FAt base n A kv F w) {k c : Nat} (hk : k < n) (hc : c < n) {v : Value} (hv : Owns base 113 w' v ((F.kids k ++ [c]).map (nptr A))) (hg : w.grownBy w' (kv k).ownBlock)
    (hb : ∀ b, v.ownBlock = some b → (kv k).ownBlock = some b ∨ w.heap.size ≤ b) : FAt base n A (upd kv k v) { F with kids := upd F.kids k (F.kids k ++ [c]) } (w'.setCell ⟨A k, 1, none⟩ v) := by
  have hold : ∀ i, i < n → w'.heap[A i]? = w.heap[A i]? := fun i hi => hg.block (A i) (h.lt hi) (fun e => h.apart k i hk hi e.symm)
  have hnA : ∀ b, v.ownBlock = some b → b ≠ A k := fun b hv2 e => by
    rcases hb b hv2 with h4 | h4
    · exact h.apart k k hk hk (by rw [h4, e])
    · have := h.lt hk; omega
  refine h.put hk (fun i hi e => ?_) ?_ (hv.same fun b hv2 => blk_setCell_other _ _ _ _ (hnA b hv2)) (fun i b hi e hb2 => ?_) hb ?_
  · rw [blk_setCell_other _ _ _ _ (fun e2 => e (h.inj i k hi hk e2))]; exact hold i hi
  · have hn := hold k hk
    rw [h.node k hk] at hn
    simp [World.setCell, Array.getElem?_modify, hn]
  · have hne : b ≠ A k := fun e2 => h.apart i k hi hk (by rw [hb2, e2])
    rw [blk_setCell_other _ _ _ _ hne]
    exact hg.block b (h.ownlt hi hb2).2 (fun e2 => e (h.alone i k b hi hk hb2 e2.symm))
  · intro j hj
    rcases List.mem_append.1 hj with h1 | h1
    · exact h.kid k hk j h1
    · have : j = c := by simpa using h1
      omega
end
end Go.Proofs.YtpjijbophjdgaaaGreat
namespace Go.Proofs.YtpjijbophjdgaaaGreat
open Go.Sort
theorem cmp_anti : ∀ a b : List UInt8, Lib.compareBytes b a = - Lib.compareBytes a b
  | [], [] => rfl
  | [], _ :: _ => rfl
  | _ :: _, [] => rfl
  | a :: u, b :: v => by
    unfold Lib.compareBytes
    by_cases h1 : a < b
    · have h2 : ¬ b < a := by rw [UInt8.lt_iff_toNat_lt] at *; omega
      simp [h1, h2]
    · by_cases h2 : b < a
      · simp [h1, h2]
      · simp only [h1, h2, if_false]; exact cmp_anti u v
theorem cmp_zero : ∀ {a b : List UInt8}, Lib.compareBytes a b = 0 → a = b
  | [], [], _ => rfl
  | [], _ :: _, h => by cases h
  | _ :: _, [], h => by cases h
  | a :: u, b :: v, h => by
    unfold Lib.compareBytes at h
    split at h
    · cases h
    · split at h
      · cases h
      · rename_i h1 h2
        have e : a = b := by
          apply UInt8.toNat.inj
          rw [UInt8.lt_iff_toNat_lt] at h1 h2; omega
        rw [e, cmp_zero h]
theorem cmp_self (a : List UInt8) : Lib.compareBytes a a = 0 := by have := cmp_anti a a; omega
theorem cmp_trans : ∀ {a b c : List UInt8}, Lib.compareBytes a b < 0 → Lib.compareBytes b c < 0 → Lib.compareBytes a c < 0
  | [], [], _, h, _ => by cases h
  | [], _ :: _, [], _, h => by cases h
  | [], _ :: _, _ :: _, _, _ => Int.negSucc_lt_zero 0
  | _ :: _, [], _, h, _ => by cases h
  | _ :: _, _ :: _, [], _, h => by cases h
  | a :: u, b :: v, c :: x, h, h' => by
    unfold Lib.compareBytes at *
    by_cases h1 : a < b
    · by_cases h2 : b < c
      · have h3 : a < c := by rw [UInt8.lt_iff_toNat_lt] at *; omega
        rw [if_pos h3]; decide
      · rw [if_neg h2] at h'
        by_cases h3 : c < b
        · rw [if_pos h3] at h'; cases h'
        · have h4 : a < c := by rw [UInt8.lt_iff_toNat_lt] at *; omega
          rw [if_pos h4]; decide
    · rw [if_neg h1] at h
      by_cases h2 : b < a
      · rw [if_pos h2] at h; cases h
      · rw [if_neg h2] at h
        have e : a = b := by
          apply UInt8.toNat.inj
          rw [UInt8.lt_iff_toNat_lt] at h1 h2; omega
        subst e
        by_cases h3 : a < c
        · rw [if_pos h3]; decide
        · rw [if_neg h3] at h' ⊢
          by_cases h4 : c < a
          · rw [if_pos h4] at h'; cases h'
          · rw [if_neg h4] at h' ⊢; exact cmp_trans h h'
def cmpS (a b : ByteArray) : Int := Lib.compareBytes a.data.toList b.data.toList
theorem cmpS_anti (a b : ByteArray) : cmpS b a = - cmpS a b := cmp_anti _ _
theorem cmpS_zero {a b : ByteArray} (h : cmpS a b = 0) : a = b := ba_ext (cmp_zero h)
theorem cmpS_trans {a b c : ByteArray} (h : cmpS a b < 0) (h' : cmpS b c < 0) : cmpS a c < 0 := cmp_trans h h'
theorem cmpS_self (a : ByteArray) : cmpS a a = 0 := cmp_self _
def leB (f : Nat → ByteArray) (x y : Nat) : Bool := decide (cmpS (f x) (f y) ≤ 0)
def srtBy (f : Nat → ByteArray) (l : List Nat) : List Nat := l.mergeSort (leB f)
theorem leB_trans (f : Nat → ByteArray) (a b c : Nat) (h : leB f a b = true) (h' : leB f b c = true) : leB f a c = true := by
  unfold leB at *
  simp only [decide_eq_true_eq] at *
  by_cases h1 : cmpS (f a) (f b) = 0
  · rw [cmpS_zero h1]; exact h'
  · by_cases h2 : cmpS (f b) (f c) = 0
    · rw [← cmpS_zero h2]; exact h
    · have := cmpS_trans (a := f a) (b := f b) (c := f c) (by omega) (by omega); omega
theorem leB_total (f : Nat → ByteArray) (a b : Nat) : (leB f a b || leB f b a) = true := by
  unfold leB
  have := cmpS_anti (f a) (f b)
  simp only [Bool.or_eq_true, decide_eq_true_eq]; omega
theorem srtBy_perm (f : Nat → ByteArray) (l : List Nat) : (srtBy f l).Perm l := List.mergeSort_perm _ _
theorem srtBy_sorted (f : Nat → ByteArray) (l : List Nat) : (srtBy f l).Pairwise (fun a b => leB f a b = true) := List.pairwise_mergeSort (leB_trans f) (leB_total f) l
theorem srtBy_congr {f g : Nat → ByteArray} {l : List Nat} (h : ∀ x ∈ l, f x = g x) : srtBy f l = srtBy g l := by
  have := List.map_mergeSort (f := id) (r := leB f) (s := leB g) (l := l) (fun a ha b hb => by simp only [leB, id]; rw [h a ha, h b hb])
  simpa [srtBy] using this
def Sep (f : Nat → ByteArray) (l : List Nat) : Prop := ∀ x ∈ l, ∀ y ∈ l, f x = f y → x = y
theorem srtBy_of_perm {f : Nat → ByteArray} {l l' : List Nat} (hp : l.Perm l') (hs : Sep f l) : srtBy f l = srtBy f l' := by
  refine List.Perm.eq_of_pairwise (le := fun a b => leB f a b = true) ?_ (srtBy_sorted f l) (srtBy_sorted f l') (((srtBy_perm f l).trans hp).trans (srtBy_perm f l').symm)
  intro a b ha hb h1 h2
  refine hs a ((srtBy_perm f l).mem_iff.1 ha) b (hp.mem_iff.2 ((srtBy_perm f l').mem_iff.1 hb)) (cmpS_zero ?_)
  unfold leB at h1 h2
  simp only [decide_eq_true_eq] at h1 h2
  have := cmpS_anti (f a) (f b); omega
structure Wf (F : Frs) (n : Nat) (rk : Nat → Nat) : Prop where
  kid : ∀ i, i < n → ∀ k ∈ F.kids i, k < n ∧ rk k < rk i
def lsD (F : Frs) : Nat → Nat → ByteArray
  | 0, i => F.nm i
  | d + 1, i => match srtBy (lsD F d) (F.kids i) with | [] => F.nm i | k :: _ => lsD F d k
theorem lsD_fuel {F : Frs} {n : Nat} {rk : Nat → Nat} (h : Wf F n rk) : ∀ {d e i : Nat}, i < n → rk i ≤ d → rk i ≤ e → lsD F d i = lsD F e i := by
  intro d
  induction d with
  | zero =>
    intro e i hi hd he
    have hk : F.kids i = [] := by
      cases hk : F.kids i with
      | nil => rfl
      | cons k l => have := (h.kid i hi k (by rw [hk]; simp)).2; omega
    cases e with
    | zero => rfl
    | succ e => simp [lsD, hk, srtBy]
  | succ d ih =>
    intro e i hi hd he
    have hsame : ∀ e', rk i ≤ e' + 1 → srtBy (lsD F d) (F.kids i) = srtBy (lsD F e') (F.kids i) := fun e' he' => srtBy_congr fun k hk => by
      have := h.kid i hi k hk
      exact ih this.1 (by omega) (by omega)
    cases e with
    | zero =>
      have hk : F.kids i = [] := by
        cases hk : F.kids i with
        | nil => rfl
        | cons k l => have := (h.kid i hi k (by rw [hk]; simp)).2; omega
      simp [lsD, hk, srtBy]
    | succ e =>
      simp only [lsD]
      rw [hsame e (by omega)]
      cases hc : srtBy (lsD F e) (F.kids i) with
      | nil => rfl
      | cons k l =>
        have hk : k ∈ F.kids i := (srtBy_perm _ _).mem_iff.1 (by rw [hc]; simp)
        have := h.kid i hi k hk
        exact ih this.1 (by omega) (by omega)
def lsF (F : Frs) (rk : Nat → Nat) (i : Nat) : ByteArray := lsD F (rk i) i
theorem lsF_eq {F : Frs} {n : Nat} {rk : Nat → Nat} (h : Wf F n rk) {i : Nat} (hi : i < n) : lsF F rk i = match srtBy (lsF F rk) (F.kids i) with | [] => F.nm i | k :: _ => lsF F rk k := by
  have h1 : lsF F rk i = lsD F (rk i + 1) i := lsD_fuel h hi (Nat.le_refl _) (Nat.le_succ _)
  rw [h1]
  simp only [lsD]
  have hs : srtBy (lsD F (rk i)) (F.kids i) = srtBy (lsF F rk) (F.kids i) := srtBy_congr fun k hk => by
    have := h.kid i hi k hk
    exact lsD_fuel h this.1 (by omega) (Nat.le_refl _)
  rw [hs]
  cases hc : srtBy (lsF F rk) (F.kids i) with
  | nil => rfl
  | cons k l =>
    have hk : k ∈ F.kids i := (srtBy_perm _ _).mem_iff.1 (by rw [hc]; simp)
    have := h.kid i hi k hk
    exact lsD_fuel h this.1 (by omega) (Nat.le_refl _)
def subD (F : Frs) : Nat → Nat → Nat → Bool
  | 0, i, j => j == i
  | d + 1, i, j => (j == i) || (F.kids i).any fun k => subD F d k j
def subF (F : Frs) (rk : Nat → Nat) (i j : Nat) : Bool := subD F (rk i) i j
theorem subD_fuel {F : Frs} {n : Nat} {rk : Nat → Nat} (h : Wf F n rk) : ∀ {d e i j : Nat}, i < n → rk i ≤ d → rk i ≤ e → subD F d i j = subD F e i j := by
  intro d
  induction d with
  | zero =>
    intro e i j hi hd he
    have hk : F.kids i = [] := by
      cases hk : F.kids i with
      | nil => rfl
      | cons k l => have := (h.kid i hi k (by rw [hk]; simp)).2; omega
    cases e with
    | zero => rfl
    | succ e => simp [subD, hk]
  | succ d ih =>
    intro e i j hi hd he
    cases e with
    | zero =>
      have hk : F.kids i = [] := by
        cases hk : F.kids i with
        | nil => rfl
        | cons k l => have := (h.kid i hi k (by rw [hk]; simp)).2; omega
      simp [subD, hk]
    | succ e =>
      simp only [subD]
      congr 1
      rw [Bool.eq_iff_iff, List.any_eq_true, List.any_eq_true]
      constructor
      · rintro ⟨k, hk, h1⟩
        have := h.kid i hi k hk
        exact ⟨k, hk, by rw [← ih (e := e) this.1 (by omega) (by omega)]; exact h1⟩
      · rintro ⟨k, hk, h1⟩
        have := h.kid i hi k hk
        exact ⟨k, hk, by rw [ih (e := e) this.1 (by omega) (by omega)]; exact h1⟩
theorem subF_eq {F : Frs} {n : Nat} {rk : Nat → Nat} (h : Wf F n rk) {i : Nat} (hi : i < n) (j : Nat) : subF F rk i j = ((j == i) || (F.kids i).any fun k => subF F rk k j) := by
  have h1 : subF F rk i j = subD F (rk i + 1) i j := subD_fuel h hi (Nat.le_refl _) (Nat.le_succ _)
  rw [h1]
  simp only [subD]
  congr 1
  rw [Bool.eq_iff_iff, List.any_eq_true, List.any_eq_true]
  constructor
  · rintro ⟨k, hk, h1⟩
    have := h.kid i hi k hk
    exact ⟨k, hk, by unfold subF; rw [← subD_fuel h this.1 (d := rk i) (by omega) (Nat.le_refl _)]; exact h1⟩
  · rintro ⟨k, hk, h1⟩
    have := h.kid i hi k hk
    exact ⟨k, hk, by rw [subD_fuel h this.1 (e := rk k) (by omega) (Nat.le_refl _)]; exact h1⟩
def Frs.srt (F : Frs) (rk : Nat → Nat) (p : Nat → Bool) : Frs := { F with kids := fun i => if p i then srtBy (lsF F rk) (F.kids i) else F.kids i }
theorem Frs.srt_perm (F : Frs) (rk : Nat → Nat) (p : Nat → Bool) (i : Nat) : ((F.srt rk p).kids i).Perm (F.kids i) := by
  show (if p i then _ else _ : List Nat).Perm _
  split
  · exact srtBy_perm _ _
  · exact List.Perm.refl _
end Go.Proofs.YtpjijbophjdgaaaGreat
