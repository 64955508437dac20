/- The plain law of the order of children: names compared, the least name below a node, children sorted. The closure that compares children: its contract. The world outside a forest. The contract of slices.SortFunc at nodes: the laying. Children sorted: slices.SortFunc with the closure of phylotree.sorted. -/
import Derived.Test.YtcbmbhghmfehpaaGreatQ4
import Derived.Lib.Bytealg
import Derived.Sort.Statements
import Derived.Test.YtcbmbhghmfehpaaGreatQ2
import Derived.Shelf.SlGeneric
import Derived.Shelf.SlSortCmp.NoneTotal
import Derived.Test.YtcbmbhghmfehpaaGreatProg
import Derived.Sort.OwnSorted
namespace Go.Proofs.YtcbmbhghmfehpaaGreat
open Go.Sort
theorem cmp_anti : ∀ a b : List UInt8, Lib.compareBytes b a = - Lib.compareBytes a b
  | [], [] => rfl
  | [], _ :: _ => rfl
  | _ :: _, [] => rfl
  | a :: u, b :: v => by
    unfold Lib.compareBytes
    by_cases h1 : a < b
    · have h2 : ¬ b < a := by rw [UInt8.lt_iff_toNat_lt] at *; omega
      simp [h1, h2]
    · by_cases h2 : b < a
      · simp [h1, h2]
      · simp only [h1, h2, if_false]; exact cmp_anti u v
theorem cmp_zero : ∀ {a b : List UInt8}, Lib.compareBytes a b = 0 → a = b
  | [], [], _ => rfl
  | [], _ :: _, h => by cases h
  | _ :: _, [], h => by cases h
  | a :: u, b :: v, h => by
    unfold Lib.compareBytes at h
    split at h
    · cases h
    · split at h
      · cases h
      · rename_i h1 h2
        have e : a = b := by
          apply UInt8.toNat.inj
          rw [UInt8.lt_iff_toNat_lt] at h1 h2; omega
        rw [e, cmp_zero h]
theorem cmp_self (a : List UInt8) : Lib.compareBytes a a = 0 := by have := cmp_anti a a; omega
theorem cmp_trans : ∀ {a b c : List UInt8}, Lib.compareBytes a b < 0 → Lib.compareBytes b c < 0 → Lib.compareBytes a c < 0
  | [], [], _, h, _ => by cases h
  | [], _ :: _, [], _, h => by cases h
  | [], _ :: _, _ :: _, _, _ => Int.negSucc_lt_zero 0
  | _ :: _, [], _, h, _ => by cases h
  | _ :: _, _ :: _, [], _, h => by cases h
  | a :: u, b :: v, c :: x, h, h' => by
    unfold Lib.compareBytes at *
    by_cases h1 : a < b
    · by_cases h2 : b < c
      · have h3 : a < c := by rw [UInt8.lt_iff_toNat_lt] at *; omega
        rw [if_pos h3]; decide
      · rw [if_neg h2] at h'
        by_cases h3 : c < b
        · rw [if_pos h3] at h'; cases h'
        · have h4 : a < c := by rw [UInt8.lt_iff_toNat_lt] at *; omega
          rw [if_pos h4]; decide
    · rw [if_neg h1] at h
      by_cases h2 : b < a
      · rw [if_pos h2] at h; cases h
      · rw [if_neg h2] at h
        have e : a = b := by
          apply UInt8.toNat.inj
          rw [UInt8.lt_iff_toNat_lt] at h1 h2; omega
        subst e
        by_cases h3 : a < c
        · rw [if_pos h3]; decide
        · rw [if_neg h3] at h' ⊢
          by_cases h4 : c < a
          · rw [if_pos h4] at h'; cases h'
          · rw [if_neg h4] at h' ⊢; exact cmp_trans h h'
def cmpS (a b : ByteArray) : Int := Lib.compareBytes a.data.toList b.data.toList
theorem cmpS_anti (a b : ByteArray) : cmpS b a = - cmpS a b := cmp_anti _ _
theorem cmpS_zero {a b : ByteArray} (h : cmpS a b = 0) : a = b := ba_ext (cmp_zero h)
theorem cmpS_trans {a b c : ByteArray} (h : cmpS a b < 0) (h' : cmpS b c < 0) : cmpS a c < 0 := cmp_trans h h'
theorem cmpS_self (a : ByteArray) : cmpS a a = 0 := cmp_self _
/-- 'x stands no later than y'. -/
def leB (f : Nat → ByteArray) (x y : Nat) : Bool := decide (cmpS (f x) (f y) ≤ 0)
def srtBy (f : Nat → ByteArray) (l : List Nat) : List Nat := l.mergeSort (leB f)
theorem leB_trans (f : Nat → ByteArray) (a b c : Nat) (h : leB f a b = true) (h' : leB f b c = true) : leB f a c = true := by
  unfold leB at *
  simp only [decide_eq_true_eq] at *
  by_cases h1 : cmpS (f a) (f b) = 0
  · rw [cmpS_zero h1]; exact h'
  · by_cases h2 : cmpS (f b) (f c) = 0
    · rw [← cmpS_zero h2]; exact h
    · have := cmpS_trans (a := f a) (b := f b) (c := f c) (by omega) (by omega); omega
theorem leB_total (f : Nat → ByteArray) (a b : Nat) : (leB f a b || leB f b a) = true := by
  unfold leB
  have := cmpS_anti (f a) (f b)
  simp only [Bool.or_eq_true, decide_eq_true_eq]; omega
theorem srtBy_perm (f : Nat → ByteArray) (l : List Nat) : (srtBy f l).Perm l := List.mergeSort_perm _ _
theorem srtBy_sorted (f : Nat → ByteArray) (l : List Nat) : (srtBy f l).Pairwise (fun a b => leB f a b = true) := List.pairwise_mergeSort (leB_trans f) (leB_total f) l
theorem srtBy_congr {f g : Nat → ByteArray} {l : List Nat} (h : ∀ x ∈ l, f x = g x) : srtBy f l = srtBy g l := by
  have := List.map_mergeSort (f := id) (r := leB f) (s := leB g) (l := l) (fun a ha b hb => by simp only [leB, id]; rw [h a ha, h b hb])
  simpa [srtBy] using this
/-- Children whose least names differ. -/
def Sep (f : Nat → ByteArray) (l : List Nat) : Prop := ∀ x ∈ l, ∀ y ∈ l, f x = f y → x = y
theorem srtBy_of_perm {f : Nat → ByteArray} {l l' : List Nat} (hp : l.Perm l') (hs : Sep f l) : srtBy f l = srtBy f l' := by
  refine List.Perm.eq_of_pairwise (le := fun a b => leB f a b = true) ?_ (srtBy_sorted f l) (srtBy_sorted f l') (((srtBy_perm f l).trans hp).trans (srtBy_perm f l').symm)
  intro a b ha hb h1 h2
  refine hs a ((srtBy_perm f l).mem_iff.1 ha) b (hp.mem_iff.2 ((srtBy_perm f l').mem_iff.1 hb)) (cmpS_zero ?_)
  unfold leB at h1 h2
  simp only [decide_eq_true_eq] at h1 h2
  have := cmpS_anti (f a) (f b); omega
/-- Below each node a rank falls. -/
structure Wf (F : Frs) (n : Nat) (rk : Nat → Nat) : Prop where
  kid : ∀ i, i < n → ∀ k ∈ F.kids i, k < n ∧ rk k < rk i
/-- The least name below a node, d levels deep. -/
def lsD (F : Frs) : Nat → Nat → ByteArray
  | 0, i => F.nm i
  | d + 1, i => match srtBy (lsD F d) (F.kids i) with | [] => F.nm i | k :: _ => lsD F d k
theorem lsD_fuel {F : Frs} {n : Nat} {rk : Nat → Nat} (h : Wf F n rk) : ∀ {d e i : Nat}, i < n → rk i ≤ d → rk i ≤ e → lsD F d i = lsD F e i := by
  intro d
  induction d with
  | zero =>
    intro e i hi hd he
    have hk : F.kids i = [] := by
      cases hk : F.kids i with
      | nil => rfl
      | cons k l => have := (h.kid i hi k (by rw [hk]; simp)).2; omega
    cases e with
    | zero => rfl
    | succ e => simp [lsD, hk, srtBy]
  | succ d ih =>
    intro e i hi hd he
    have hsame : ∀ e', rk i ≤ e' + 1 → srtBy (lsD F d) (F.kids i) = srtBy (lsD F e') (F.kids i) := fun e' he' => srtBy_congr fun k hk => by
      have := h.kid i hi k hk
      exact ih this.1 (by omega) (by omega)
    cases e with
    | zero =>
      have hk : F.kids i = [] := by
        cases hk : F.kids i with
        | nil => rfl
        | cons k l => have := (h.kid i hi k (by rw [hk]; simp)).2; omega
      simp [lsD, hk, srtBy]
    | succ e =>
      simp only [lsD]
      rw [hsame e (by omega)]
      cases hc : srtBy (lsD F e) (F.kids i) with
      | nil => rfl
      | cons k l =>
        have hk : k ∈ F.kids i := (srtBy_perm _ _).mem_iff.1 (by rw [hc]; simp)
        have := h.kid i hi k hk
        exact ih this.1 (by omega) (by omega)
def lsF (F : Frs) (rk : Nat → Nat) (i : Nat) : ByteArray := lsD F (rk i) i
theorem lsF_eq {F : Frs} {n : Nat} {rk : Nat → Nat} (h : Wf F n rk) {i : Nat} (hi : i < n) : lsF F rk i = match srtBy (lsF F rk) (F.kids i) with | [] => F.nm i | k :: _ => lsF F rk k := by
  have h1 : lsF F rk i = lsD F (rk i + 1) i := lsD_fuel h hi (Nat.le_refl _) (Nat.le_succ _)
  rw [h1]
  simp only [lsD]
  have hs : srtBy (lsD F (rk i)) (F.kids i) = srtBy (lsF F rk) (F.kids i) := srtBy_congr fun k hk => by
    have := h.kid i hi k hk
    exact lsD_fuel h this.1 (by omega) (Nat.le_refl _)
  rw [hs]
  cases hc : srtBy (lsF F rk) (F.kids i) with
  | nil => rfl
  | cons k l =>
    have hk : k ∈ F.kids i := (srtBy_perm _ _).mem_iff.1 (by rw [hc]; simp)
    have := h.kid i hi k hk
    exact lsD_fuel h this.1 (by omega) (Nat.le_refl _)
/-- Number j lies below i, or is it: d levels deep. -/
def subD (F : Frs) : Nat → Nat → Nat → Bool
  | 0, i, j => j == i
  | d + 1, i, j => (j == i) || (F.kids i).any fun k => subD F d k j
def subF (F : Frs) (rk : Nat → Nat) (i j : Nat) : Bool := subD F (rk i) i j
theorem subD_fuel {F : Frs} {n : Nat} {rk : Nat → Nat} (h : Wf F n rk) : ∀ {d e i j : Nat}, i < n → rk i ≤ d → rk i ≤ e → subD F d i j = subD F e i j := by
  intro d
  induction d with
  | zero =>
    intro e i j hi hd he
    have hk : F.kids i = [] := by
      cases hk : F.kids i with
      | nil => rfl
      | cons k l => have := (h.kid i hi k (by rw [hk]; simp)).2; omega
    cases e with
    | zero => rfl
    | succ e => simp [subD, hk]
  | succ d ih =>
    intro e i j hi hd he
    cases e with
    | zero =>
      have hk : F.kids i = [] := by
        cases hk : F.kids i with
        | nil => rfl
        | cons k l => have := (h.kid i hi k (by rw [hk]; simp)).2; omega
      simp [subD, hk]
    | succ e =>
      simp only [subD]
      congr 1
      rw [Bool.eq_iff_iff, List.any_eq_true, List.any_eq_true]
      constructor
      · rintro ⟨k, hk, h1⟩
        have := h.kid i hi k hk
        exact ⟨k, hk, by rw [← ih (e := e) this.1 (by omega) (by omega)]; exact h1⟩
      · rintro ⟨k, hk, h1⟩
        have := h.kid i hi k hk
        exact ⟨k, hk, by rw [ih (e := e) this.1 (by omega) (by omega)]; exact h1⟩
theorem subF_eq {F : Frs} {n : Nat} {rk : Nat → Nat} (h : Wf F n rk) {i : Nat} (hi : i < n) (j : Nat) : subF F rk i j = ((j == i) || (F.kids i).any fun k => subF F rk k j) := by
  have h1 : subF F rk i j = subD F (rk i + 1) i j := subD_fuel h hi (Nat.le_refl _) (Nat.le_succ _)
  rw [h1]
  simp only [subD]
  congr 1
  rw [Bool.eq_iff_iff, List.any_eq_true, List.any_eq_true]
  constructor
  · rintro ⟨k, hk, h1⟩
    have := h.kid i hi k hk
    exact ⟨k, hk, by unfold subF; rw [← subD_fuel h this.1 (d := rk i) (by omega) (Nat.le_refl _)]; exact h1⟩
  · rintro ⟨k, hk, h1⟩
    have := h.kid i hi k hk
    exact ⟨k, hk, by rw [subD_fuel h this.1 (e := rk k) (by omega) (Nat.le_refl _)]; exact h1⟩
/-- The forest in which the children of the nodes of p are sorted. -/
def Frs.srt (F : Frs) (rk : Nat → Nat) (p : Nat → Bool) : Frs := { F with kids := fun i => if p i then srtBy (lsF F rk) (F.kids i) else F.kids i }
theorem Frs.srt_perm (F : Frs) (rk : Nat → Nat) (p : Nat → Bool) (i : Nat) : ((F.srt rk p).kids i).Perm (F.kids i) := by
  show (if p i then _ else _ : List Nat).Perm _
  split
  · exact srtBy_perm _ _
  · exact List.Perm.refl _
end Go.Proofs.YtcbmbhghmfehpaaGreat
namespace Go.Proofs.YtcbmbhghmfehpaaGreat
open Go.RowKit Go.Deep
theorem Tryz.sizeNd : ∀ w, (Go.sizeOf 147).run Tryz.prog w = .ok 3 w := Tryz.sizeOf147
/-- What lies outside the forest lies as it lay. -/
structure FUp (n : Nat) (A : Nat → Nat) (kv : Nat → Value) (w w' : World) : Prop where
  os : w'.os = w.os
  tape : w'.tape = w.tape
  output : w'.output = w.output
  size : w.heap.size ≤ w'.heap.size
  block : ∀ b, b < w.heap.size → (∀ i, i < n → b ≠ A i) → (∀ i, i < n → (kv i).ownBlock ≠ some b) → w'.heap[b]? = w.heap[b]?
section
variable {n base : Nat} {A : Nat → Nat} {kv : Nat → Value} {F : Frs} {a b c : World}
theorem FUp.refl (n : Nat) (A : Nat → Nat) (kv : Nat → Value) (w : World) : FUp n A kv w w := ⟨rfl, rfl, rfl, Nat.le_refl _, fun _ _ _ _ => rfl⟩
theorem FUp.trans (h : FUp n A kv a b) (k : FUp n A kv b c) : FUp n A kv a c :=
  ⟨k.os.trans h.os, k.tape.trans h.tape, k.output.trans h.output, Nat.le_trans h.size k.size, fun j hj h1 h2 => (k.block j (Nat.lt_of_lt_of_le hj h.size) h1 h2).trans (h.block j hj h1 h2)⟩
theorem FUp.of_up (h : Up a b) : FUp n A kv a b := ⟨h.os, h.tape, h.output, h.size, fun j hj _ _ => Below.block h j hj⟩
theorem FUp.below (h : FUp n A kv a b) (hF : FAt base n A kv F a) (hb : base ≤ a.heap.size) : Below base a b :=
  ⟨h.os, h.tape, h.output, h.size, fun j hj => h.block j (by omega) (fun i hi e => by have := hF.lo i hi; omega) (fun i hi e => by have := (hF.ownlt hi e).1; omega)⟩
end
set_option maxRecDepth 100000 in
set_option maxHeartbeats 400000 in
theorem sorted1_t (w : World) (bx m0 x y : Nat) (l : List (Option Nat × Value)) (sx sy : ByteArray) (hbx : w.cell? ⟨bx, 0, none⟩ = some (.map (some m0))) (hm : PMap w m0 l) (hok : ∀ z ∈ l, okKey w z.1) (hx : Plain w x) (hy : Plain w y)
    (h1 : l.lookup (some x) = some (.string sx)) (h2 : l.lookup (some y) = some (.string sy)) :
    Calls Tryz.prog 218 #[.pointer (some ⟨x, 0, none⟩), .pointer (some ⟨y, 0, none⟩), .pointer (some ⟨bx, 0, none⟩)] w fun e w' => e = .returned (.int .i64 (cmpS sx sy)) ∧ w = w' := by
  have g1 := run_pget (P := Tryz.prog) Tryz.underlying237 Tryz.underlying145 Tryz.sizeNd hm (k := some x) hx hok h1
  have g2 := run_pget (P := Tryz.prog) Tryz.underlying237 Tryz.underlying145 Tryz.sizeNd hm (k := some y) hy hok h2
  simp only [pk] at g1 g2
  clear hm hok hx hy h1 h2
  go_enter Tryz.func218, Tryz.ntmps218
  go_wp2_with (go_at_call 219; refine (Tryz.strings_Compare sx sy _).mono ?_; rintro e w' ⟨rfl, rfl⟩)
  go_ret
  exact ⟨rfl, rfl⟩
end Go.Proofs.YtcbmbhghmfehpaaGreat
namespace Go.Proofs
open Go.Shelf
def Tryz.sortNode_ren : Go.Shelf.Ren := ⟨fun | 6 => 217 | 15 => 94 | 14 => 245 | 28 => 165 | 29 => 166 | 20 => 252 | 21 => 253 | 22 => 254 | 23 => 255 | 24 => 256 | 25 => 257 | 26 => 258 | 27 => 259 | 46 => 263 | 47 => 199 | 48 => 200 | 49 => 264 | 50 => 265 | 57 => 266 | n => n, fun | 22 => 143 | 24 => 145 | 25 => 239 | 3 => 3 | 39 => 118 | 0 => 0 | 53 => 180 | 55 => 96 | 4 => 4 | 46 => 173 | 45 => 172 | 50 => 177 | 5 => 5 | 9 => 9 | 66 => 212 | 70 => 216 | 76 => 248 | 77 => 126 | n => n, fun | n => n⟩
theorem Tryz.sortNode : Go.Proofs.SlLaysF.n6 Tryz.prog Tryz.sortNode_ren := {
  mixed := by kernel_rfl
  f6 := ⟨Tryz.f217.name, by decide, Tryz.func217.trans (congrArg some (by kernel_rfl))⟩
  f14 := ⟨Tryz.f245.name, by decide, Tryz.func245.trans (congrArg some (by kernel_rfl))⟩
  f15 := Tryz.func94.trans (congrArg some (by kernel_rfl))
  f20 := ⟨Tryz.f252.name, by decide, Tryz.func252.trans (congrArg some (by kernel_rfl))⟩
  f21 := ⟨Tryz.f253.name, by decide, Tryz.func253.trans (congrArg some (by kernel_rfl))⟩
  f22 := ⟨Tryz.f254.name, by decide, Tryz.func254.trans (congrArg some (by kernel_rfl))⟩
  f23 := ⟨Tryz.f255.name, by decide, Tryz.func255.trans (congrArg some (by kernel_rfl))⟩
  f24 := ⟨Tryz.f256.name, by decide, Tryz.func256.trans (congrArg some (by kernel_rfl))⟩
  f25 := ⟨Tryz.f257.name, by decide, Tryz.func257.trans (congrArg some (by kernel_rfl))⟩
  f26 := ⟨Tryz.f258.name, by decide, Tryz.func258.trans (congrArg some (by kernel_rfl))⟩
  f27 := ⟨Tryz.f259.name, by decide, Tryz.func259.trans (congrArg some (by kernel_rfl))⟩
  f28 := Tryz.func165.trans (congrArg some (by kernel_rfl))
  f29 := Tryz.func166.trans (congrArg some (by kernel_rfl))
  f46 := ⟨Tryz.f263.name, by decide, Tryz.func263.trans (congrArg some (by kernel_rfl))⟩
  f47 := Tryz.func199.trans (congrArg some (by kernel_rfl))
  f48 := Tryz.func200.trans (congrArg some (by kernel_rfl))
  f49 := ⟨Tryz.f264.name, by decide, Tryz.func264.trans (congrArg some (by kernel_rfl))⟩
  f50 := ⟨Tryz.f265.name, by decide, Tryz.func265.trans (congrArg some (by kernel_rfl))⟩
  f57 := ⟨Tryz.f266.name, by decide, Tryz.func266.trans (congrArg some (by kernel_rfl))⟩
  t0 := Tryz.underlying0
  a0 := Tryz.isAgg0
  z0 := Tryz.sizeOf0
  v0 := Tryz.zeroValue0
  t3 := Tryz.underlying3
  a3 := Tryz.isAgg3
  z3 := Tryz.sizeOf3
  v3 := Tryz.zeroValue3
  t4 := Tryz.underlying4
  a4 := Tryz.isAgg4
  z4 := Tryz.sizeOf4
  v4 := Tryz.zeroValue4
  t5 := Tryz.underlying5
  a5 := Tryz.isAgg5
  z5 := Tryz.sizeOf5
  v5 := Tryz.zeroValue5
  t9 := Tryz.underlying9
  a9 := Tryz.isAgg9
  z9 := Tryz.sizeOf9
  v9 := Tryz.zeroValue9
  t22 := Tryz.underlying143
  a22 := Tryz.isAgg143
  z22 := Tryz.sizeOf143
  v22 := Tryz.zeroValue143
  a24 := Tryz.isAgg145
  z24 := Tryz.sizeOf145
  t25 := Tryz.underlying239
  a25 := Tryz.isAgg239
  z25 := Tryz.sizeOf239
  v25 := Tryz.zeroValue239
  t39 := Tryz.underlying118
  a39 := Tryz.isAgg118
  z39 := Tryz.sizeOf118
  v39 := Tryz.zeroValue118
  t45 := Tryz.underlying172
  a45 := Tryz.isAgg172
  z45 := Tryz.sizeOf172
  v45 := Tryz.zeroValue172
  t46 := Tryz.underlying173
  a46 := Tryz.isAgg173
  z46 := Tryz.sizeOf173
  v46 := Tryz.zeroValue173
  t50 := Tryz.underlying177
  a50 := Tryz.isAgg177
  z50 := Tryz.sizeOf177
  v50 := Tryz.zeroValue177
  t53 := Tryz.underlying180
  a53 := Tryz.isAgg180
  z53 := Tryz.sizeOf180
  v53 := Tryz.zeroValue180
  t55 := Tryz.underlying96
  a55 := Tryz.isAgg96
  z55 := Tryz.sizeOf96
  v55 := Tryz.zeroValue96
  t66 := Tryz.underlying212
  a66 := Tryz.isAgg212
  z66 := Tryz.sizeOf212
  v66 := Tryz.zeroValue212
  t70 := Tryz.underlying216
  a70 := Tryz.isAgg216
  z70 := Tryz.sizeOf216
  v70 := Tryz.zeroValue216
  t76 := Tryz.underlying248
  a76 := Tryz.isAgg248
  z76 := Tryz.sizeOf248
  v76 := Tryz.zeroValue248
  t77 := Tryz.underlying126
  a77 := Tryz.isAgg126
  z77 := Tryz.sizeOf126
  v77 := Tryz.zeroValue126 }
end Go.Proofs
namespace Go.Proofs.YtcbmbhghmfehpaaGreat
open Go.RowKit Go.Deep Go.Sort Go.Shelf Go.Lib
section
variable {α : Type} [Inhabited α] {enc : α → Value}
theorem take_put (cur : Array Value) (ts : List α) (h : ts.length ≤ cur.size) : (putCells enc 0 ts.toArray cur).toList.take ts.length = ts.map enc := by
  apply List.ext_getElem?
  intro j
  by_cases hj : j < ts.length
  · rw [List.getElem?_take_of_lt hj, Array.getElem?_toList]
    simp [putCells, hj, show j < cur.size by omega]
  · rw [List.getElem?_take_eq_none (by omega), List.getElem?_eq_none (by simp; omega)]
theorem sortWorld_size (w : World) (g n : Nat) (d : Array α) (os : Array Obj) : w.heap.size ≤ (sortWorld enc w g 0 n d os).heap.size := by
  simp [sortWorld, grow, putRow, mapBlock, Sort.ahead]
theorem sortWorld_other {w : World} {g n : Nat} {d : Array α} {os : Array Obj} {b : Nat} (h : b ≠ g) (hl : b < w.heap.size) : (sortWorld enc w g 0 n d os).heap[b]? = w.heap[b]? := by
  unfold sortWorld
  rw [heap_grow_old _ _ (by simpa [putRow, mapBlock, Sort.ahead] using hl)]
  simp [putRow, mapBlock, Sort.ahead, Array.getElem?_modify, Ne.symm h]
theorem sortWorld_row {w : World} {g n : Nat} {d : Array α} {os : Array Obj} {cur : Array Value} {e : TypeId} {fr : Nat × Nat} (hb : w.heap[g]? = some (.cells cur e fr)) :
    (sortWorld enc w g 0 n d os).heap[g]? = some (.cells (putCells enc 0 d cur) e fr) := by
  have hg : g < w.heap.size := (Array.getElem?_eq_some_iff.1 hb).1
  unfold sortWorld
  rw [heap_grow_old _ _ (by simpa [putRow, mapBlock, Sort.ahead] using hg)]
  simp [putRow, mapBlock, Sort.ahead, Array.getElem?_modify, hb, onCells]
end
theorem Owns.sorted {α : Type} [Inhabited α] {enc : α → Value} {base g cap n : Nat} {e : TypeId} {w : World} {os : Array Obj} {vs : List Value} {ts : List α} (h : Owns base e w (.slice (some ⟨g, 0, none⟩) vs.length cap) vs) (hl : ts.length = vs.length) :
    Owns base e (sortWorld enc w g 0 n ts.toArray os) (.slice (some ⟨g, 0, none⟩) vs.length cap) (ts.map enc) := by
  obtain ⟨_, ⟨h1, _⟩ | ⟨g', cap', cur, hs, hg, hc, hn, hcm, hcs, ht⟩⟩ := h
  · cases h1
  · injection hs with hs1 hs2 hs3
    injection hs1 with hs1
    injection hs1 with hs1
    subst hs1; subst hs3
    refine ⟨by simp, .inr ⟨g, cap, putCells enc 0 ts.toArray cur, by simp [hl], hg, sortWorld_row hc, by simp [hl]; exact hn, hcm, by simpa [putCells] using hcs, ?_⟩⟩
    rw [List.length_map, Nat.mul_one]
    exact take_put cur ts (by omega)
theorem ltOf_cmp (f : Nat → ByteArray) {L : List Nat} : SWO (ltOf fun (x y : {k // k ∈ L}) => cmpS (f x.1) (f y.1)) where
  irrefl x := by simp [ltOf, cmpS_self]
  trans x y z h1 h2 := by
    simp only [ltOf, decide_eq_true_eq] at *
    exact cmpS_trans h1 h2
  ntrans x y z h1 h2 := by
    simp only [ltOf, decide_eq_false_iff_not] at *
    intro h3
    by_cases e : cmpS (f x.1) (f y.1) = 0
    · rw [cmpS_zero e] at h3; exact h2 h3
    · have h4 : cmpS (f y.1) (f x.1) < 0 := by have := cmpS_anti (f x.1) (f y.1); omega
      exact h2 (cmpS_trans h4 h3)
def SnPost (n base : Nat) (A : Nat → Nat) (kv : Nat → Value) (F : Frs) (w : World) (i : Nat) (l : List Nat) (e : Ending) (w' : World) : Prop :=
  e = .returned (.tuple #[]) ∧ FAt base n A kv { F with kids := upd F.kids i l } w' ∧ FUp n A kv w w'
theorem FAt.plain {base n : Nat} {A : Nat → Nat} {kv : Nat → Value} {F : Frs} {w : World} (h : FAt base n A kv F w) {i : Nat} (hi : i < n) : Plain w (A i) := ⟨_, _, h.node i hi, by simp⟩
theorem Plain.of_block {w w' : World} {b : Nat} (h : Plain w b) (e : w'.heap[b]? = w.heap[b]?) : Plain w' b := by
  obtain ⟨c, t, h1, h2⟩ := h
  exact ⟨c, t, by rw [e]; exact h1, h2⟩
theorem PMap.of_block {w w' : World} {b : Nat} {l : List (Option Nat × Value)} (h : PMap w b l) (e : w'.heap[b]? = w.heap[b]?) : PMap w' b l := by
  obtain ⟨es, c, h1, h2⟩ := h
  exact ⟨es, c, by rw [e]; exact h1, h2⟩
theorem PMap.lt {w : World} {b : Nat} {l : List (Option Nat × Value)} (h : PMap w b l) : b < w.heap.size := by
  obtain ⟨es, c, h1, h2⟩ := h
  exact (Array.getElem?_eq_some_iff.1 h1).1
set_option maxRecDepth 100000 in
set_option maxHeartbeats 800000 in
theorem sortNodes_t {base n : Nat} {A : Nat → Nat} {kv : Nat → Value} {F : Frs} {w : World} (hF : FAt base n A kv F w) {i g cap : Nat} (hi : i < n) (hv : kv i = .slice (some ⟨g, 0, none⟩) (F.kids i).length cap) (h0 : F.kids i ≠ []) (hlen : (F.kids i).length ≤ 1000000)
    (f : Nat → ByteArray) (hs : Sep f (F.kids i)) {bx m0 : Nat} {l : List (Option Nat × Value)} (hbx : w.cell? ⟨bx, 0, none⟩ = some (.map (some m0))) (hm : PMap w m0 l) (hgb : g ≠ bx) (hgm : g ≠ m0)
    (hl : ∀ k ∈ F.kids i, l.lookup (some (A k)) = some (.string (f k))) (hok : ∀ z ∈ l, ∃ k, k < n ∧ z.1 = some (A k)) :
    Calls Tryz.prog 217 #[kv i, .func (.func 218) #[] #[.pointer (some ⟨bx, 0, none⟩)]] w (SnPost n base A kv F w i (srtBy f (F.kids i))) := by
  obtain ⟨k0, hk0⟩ : ∃ k, k ∈ F.kids i := List.exists_mem_of_ne_nil _ h0
  letI : Inhabited {k // k ∈ F.kids i} := ⟨⟨k0, hk0⟩⟩
  have hown := hF.own i hi
  rw [hv] at hown
  have hgo : (kv i).ownBlock = some g := by rw [hv]; rfl
  have hgl := (hF.ownlt hi hgo).2
  have hAg : ∀ j, j < n → A j ≠ g := fun j hj e => hF.apart i j hi hj (by rw [hgo, e])
  have eg : ∀ args w, (callFunc 218 args).run Tryz.prog w = .ok (.enter 218 args) w := enters_of Tryz.func218 (by kernel_rfl) rfl
  have hsize : ((F.kids i).attach.toArray).size = (F.kids i).length := by simp
  have hmlen : ((F.kids i).map (nptr A)).length = (F.kids i).length := by simp
  have hH : Holds (fun (x : {k // k ∈ F.kids i}) => nptr A x.1) w g 0 (F.kids i).attach.toArray := by
    intro j hj
    rw [hsize] at hj
    obtain ⟨p, c, e, _, H⟩ := hown.slAt.open
    injection e with e1
    subst e1
    obtain ⟨b, off, e, hc⟩ := H j (by rw [hmlen]; exact hj)
    injection e with e
    injection e with e1 e2
    subst e1; subst e2
    refine ⟨?_, ?_⟩
    · rw [hc, getElem!_pos _ _ (by simpa using hj)]; simp [hj]
    · obtain ⟨_, ⟨h1, _⟩ | ⟨g', cap', cur, hs', _, hc', _⟩⟩ := hown
      · cases h1
      · injection hs' with hs1
        injection hs1 with hs1
        injection hs1 with hs1
        subst hs1
        simp [World.frozen?, hc']
  have hcmp : CmpLays1 Tryz.prog 218 #[.pointer (some ⟨bx, 0, none⟩)] (fun (x : {k // k ∈ F.kids i}) => nptr A x.1) (fun x y => cmpS (f x.1) (f y.1)) g 0 (F.kids i).attach.toArray.size w := by
    intro m os dk hdk x y
    have hx := hF.kid i hi x.1 x.2
    have hy := hF.kid i hi y.1 y.2
    have hbl : bx < w.heap.size := World.block_lt_of_cell? w _ hbx
    have h1 : (sortWorld (fun (x : {k // k ∈ F.kids i}) => nptr A x.1) w g 0 m dk os).cell? ⟨bx, 0, none⟩ = some (.map (some m0)) := by
      rw [World.cell?_of_block (a := ⟨bx, 0, none⟩) (sortWorld_other (Ne.symm hgb) hbl)]; exact hbx
    refine (sorted1_t _ bx m0 (A x.1) (A y.1) l (f x.1) (f y.1) h1 (hm.of_block (sortWorld_other (Ne.symm hgm) hm.lt)) (fun z hz => ?_)
      ((hF.plain hx).of_block (sortWorld_other (hAg _ hx) (hF.lt hx))) ((hF.plain hy).of_block (sortWorld_other (hAg _ hy) (hF.lt hy))) (hl x.1 x.2) (hl y.1 y.2)).mono fun e w' ⟨he, hw⟩ => ⟨he, 0, #[], by rw [← hw, grow_empty]; rfl⟩
    obtain ⟨k, hk, e⟩ := hok z hz
    rw [e]
    exact (hF.plain hk).of_block (sortWorld_other (hAg _ hk) (hF.lt hk))
  have hcon := Any.slices_SortFunc_total Tryz.sortNode (fun (x : {k // k ∈ F.kids i}) => nptr A x.1) (fun _ => rfl) (fun x y => cmpS (f x.1) (f y.1)) (ltOf_cmp f) 218 #[.pointer (some ⟨bx, 0, none⟩)] g 0 cap (F.kids i).attach.toArray w eg hcmp hH hgl (by rw [hsize]; omega)
    (fun x y h1 h2 => by
      simp only [ltOf, decide_eq_false_iff_not] at h1 h2
      have h3 : cmpS (f x.1) (f y.1) = 0 := by have := cmpS_anti (f x.1) (f y.1); omega
      exact Subtype.ext (hs x.1 x.2 y.1 y.2 (cmpS_zero h3)))
  rw [hsize, ← hv] at hcon
  refine hcon.mono fun e w' ⟨he, m, os, hw⟩ => ⟨he, ?_, ?_⟩
  · have hsrt : (((F.kids i).attach.toArray.toList.mergeSort fun x y => !(ltOf fun (x y : {k // k ∈ F.kids i}) => cmpS (f x.1) (f y.1)) y x).map fun x => x.1) = srtBy f (F.kids i) := by
      have h := List.map_mergeSort (f := fun (x : {k // k ∈ F.kids i}) => x.1) (r := fun x y => !(ltOf fun (x y : {k // k ∈ F.kids i}) => cmpS (f x.1) (f y.1)) y x) (s := leB f) (l := (F.kids i).attach) (fun a _ b _ => by
        simp only [ltOf, leB]
        have := cmpS_anti (f a.1) (f b.1)
        by_cases h : cmpS (f a.1) (f b.1) ≤ 0
        · rw [decide_eq_true h]; simp; omega
        · rw [decide_eq_false h]; simp; omega)
      rw [List.toList_toArray]
      rw [h, List.attach_map_subtype_val]
      rfl
    have ho : Owns base 145 w' (kv i) ((srtBy f (F.kids i)).map (nptr A)) := by
      rw [hv, hw, ← hsrt, List.map_map]
      have h := Owns.sorted (enc := fun (x : {k // k ∈ F.kids i}) => nptr A x.1) (n := m) (os := os) (ts := ((F.kids i).attach.toArray.toList.mergeSort fun x y => !(ltOf fun (x y : {k // k ∈ F.kids i}) => cmpS (f x.1) (f y.1)) y x)) (vs := (F.kids i).map (nptr A)) (by rw [hmlen]; exact hown) (by simp)
      rw [hmlen] at h
      exact h
    have hsame : ∀ b, b ≠ g → b < w.heap.size → w'.heap[b]? = w.heap[b]? := fun b hb hbl => by rw [hw]; exact sortWorld_other hb hbl
    have h2 := hF.put (w' := w') (k := i) (v := kv i) (ks := srtBy f (F.kids i)) hi (fun j hj _ => hsame _ (hAg j hj) (hF.lt hj)) (by rw [hsame _ (hAg i hi) (hF.lt hi)]; exact hF.node i hi) ho
      (fun j b hj hji hb => hsame b (fun e => hji (hF.alone j i b hj hi hb (by rw [hgo, e]))) (hF.ownlt hj hb).2) (fun b hb => .inl hb) (fun j hj => hF.kid i hi j ((srtBy_perm _ _).mem_iff.1 hj))
    have hkv : upd kv i (kv i) = kv := by
      funext j; by_cases e : j = i
      · subst e; exact upd_same _ _ _
      · exact upd_ne _ _ e
    rw [hkv] at h2
    exact h2
  · rw [hw]
    exact ⟨rfl, rfl, rfl, sortWorld_size _ _ _ _ _, fun b hb _ h2 => sortWorld_other (fun e => h2 i hi (by rw [hgo, e])) hb⟩
end Go.Proofs.YtcbmbhghmfehpaaGreat
