/- What the functions of layers 1 and 31 compute, as plain functions on lists. Plain: the leaves of a tree, in order. Plain: the children of a node. Plain: costs and states. Plain: the least numbers, the table. Plain: the table of a tree. Plain: the numbers of the table are not too great. Plain: the rows of the table of a tree, its leaves' states and costs. Plain: what valid arguments are. Plain: the first best assignment. Plain: the cost of an assignment. Plain laws of the table: an unknown leaf, doubled costs, least costs. Plain laws of the score. Plain: an assignment of numbers, made to fit. Plain: what Verify accepts. Ways in which lists lie in memory, and what keeps them: for the walks of this seat. Contracts of the library that the kit lays: strings.Compare, strings.IndexByte. Names: package charset, layer 1's reference, the names of leaves. Names: Letters, IsName, the names of leaves. Contracts: slices.Index and Contains of strings, phylotree.Check. -/
import Derived.WalkKit
import Derived.WalkSpells
import Derived.WalkLawsBesides
import Derived.Deep.OwnRows
import Derived.Deep.QuietTactic
import Derived.BigQuiet
import Derived.Lib.Hide
import Derived.Shelf.Small.Strs
import Derived.Test.YtpnmblnahjjmhaaGreatProg
namespace Go.Proofs.YtpnmblnahjjmhaaGreat
open Go.RowKit in
theorem ag {p : Prop} (h : p) : Hid p := h
theorem az {α : Type} {i : Nat} {a : α} {l : List α} : l.toArray.setIfInBounds i a = (l.set i a).toArray := List.setIfInBounds_toArray ..
theorem aA {α : Type} {a b : α} {l : List α} : (a :: l).set 0 b = b :: l := List.set_cons_zero ..
theorem aB {α : Type} {n : Nat} {a b : α} {l : List α} : (a :: l).set (n + 1) b = a :: l.set n b := List.set_cons_succ ..
set_option maxRecDepth 100000
section
def gi (l : List Int) (k : Nat) : Int := l.getD k 0
def gs (l : List ByteArray) (k : Nat) : ByteArray := l.getD k ByteArray.empty
def gb (l : List Bool) (k : Nat) : Bool := l.getD k false
def gl (l : List (List Int)) (k : Nat) : List Int := l.getD k []
structure aJ where
 ps : List Int
 ns : List ByteArray

theorem Vo (bs : ByteArray) : ∀ (n i : Nat) (r : List UInt8), bs.size - i = n → ByteArray.toList.loop bs i r = r.reverse ++ bs.data.toList.drop i := by
 intro n
 induction n with
 | zero =>
  intro i r h
  unfold ByteArray.toList.loop
  rw [if_neg (by omega), List.drop_of_length_le (by simp; omega)]; simp
 | succ n ih =>
  intro i r h
  unfold ByteArray.toList.loop
  have hi : i < bs.size := by omega
  rw [if_pos hi, ih (i + 1) _ (by omega), List.reverse_cons, List.append_assoc]
  congr 1
  rw [List.drop_eq_getElem_cons (i := i) (by simpa using hi), List.singleton_append]
  congr 1
  simp [ByteArray.get!, getElem!_pos, hi]
theorem toList_data (s : ByteArray) : s.toList = s.data.toList := by
 unfold ByteArray.toList; rw [Vo s _ 0 [] rfl]; simp
theorem toList_nil (s : ByteArray) : s.toList = [] ↔ s.size = 0 := by
 rw [toList_data, ← List.length_eq_zero_iff]; simp
theorem size_data (s : ByteArray) : s.data.toList.length = s.size := by simp
theorem uD {a b : ByteArray} (h : a.data.toList = b.data.toList) : a = b := by
 cases a; cases b; simpa using h
def isLet (c : Nat) : Bool := (97 ≤ c && c ≤ 122) || (65 ≤ c && c ≤ 90)
def vo (c : Nat) : Bool := c == 46 || c == 44 || c == 59 || c == 58 || c == 33 || c == 63 || c == 40 || c == 41 || c == 45
def dN (c : Nat) : Int := if isLet c then 1 else if c = 94 ∨ c = 126 ∨ c = 37 then 2 else if 48 ≤ c ∧ c ≤ 57 then 3 else if c = 39 then 4 else if c = 32 then 6 else if vo c then 5 else 0
def rQ (c : UInt8) : Bool := isLet c.toNat || (48 ≤ c.toNat && c.toNat ≤ 57)
def j9 (l : List UInt8) : Nat := l.countP rQ
def fA (l : List UInt8) : Bool := 1 ≤ l.length && l.length ≤ 16 && l.all rQ
def bM (l : List UInt8) : Bool := if l.getLast? = some 42 then fA l.dropLast && l.length ≤ 16 else fA l

def nE (i : Nat) (p : Int) : Bool := if i = 0 then p == -1 else decide (0 ≤ p) && decide (p < i)
def gx (ps : List Int) : Bool := (List.range ps.length).all fun i => nE i (gi ps i)
def Bb (ps : List Int) (n i : Nat) : Bool := (List.range n).any fun j => decide (0 < j) && gi ps j == (i : Int)
def isIn (ps : List Int) (i : Nat) : Bool := Bb ps ps.length i
def dO (ns : List ByteArray) (i : Nat) : Bool := (List.range i).any fun j => decide (gs ns j = gs ns i)
def jv (ps : List Int) (ns : List ByteArray) (i : Nat) : Int :=
 if isIn ps i then (if (gs ns i).size = 0 then 0 else 14) else if bM (gs ns i).data.toList then (if dO ns i then 7 else 0) else 14
def firstNZ (f : Nat → Int) : Nat → Int
 | 0 => 0
 | n + 1 => if firstNZ f n = 0 then f n else firstNZ f n
def aK (t : aJ) : Int :=
 if t.ps.length = 0 then 5 else if 64 < t.ps.length then 4 else if t.ns.length ≠ t.ps.length then 9
 else if gx t.ps then firstNZ (jv t.ps t.ns) t.ps.length else 2
def bD (ns : List ByteArray) : List Int := ((List.range ns.length).filter fun i => (gs ns i).size ≠ 0).map fun (i : Nat) => (i : Int)

theorem c9 {f : Nat → Int} : ∀ {n : Nat}, (∀ j, j < n → f j = 0) → firstNZ f n = 0
 | 0, _ => rfl
 | n + 1, h => by
  unfold firstNZ
  rw [if_pos (c9 fun j hj => h j (by omega))]; exact h n (by omega)
theorem fM {f : Nat → Int} {k : Nat} : ∀ {n : Nat}, k < n → (∀ j, j < k → f j = 0) → f k ≠ 0 → firstNZ f n = f k
 | 0, h, _, _ => absurd h (Nat.not_lt_zero _)
 | n + 1, hk, h, hne => by
  unfold firstNZ
  by_cases e : k = n
  ·subst e; rw [if_pos (c9 h)]
  ·rw [fM (by omega) h hne, if_neg hne]
theorem jd {f : Nat → Int} : ∀ {n : Nat}, firstNZ f n = 0 → ∀ j, j < n → f j = 0
 | 0, _, j, hj => absurd hj (Nat.not_lt_zero _)
 | n + 1, h, j, hj => by
  unfold firstNZ at h
  split at h
  ·rename_i h0
   by_cases e : j = n
   ·subst e; exact h
   ·exact jd h0 j (by omega)
  ·rename_i h0; exact absurd h h0
theorem Fo (ps : List Int) (n i : Nat) : Bb ps (n + 1) i = (Bb ps n i || (decide (0 < n) && gi ps n == (i : Int))) := by
 simp [Bb, List.range_succ, List.any_append]
theorem Fp {ps : List Int} {k : Nat} (hk : k < ps.length) (h : nE k (gi ps k) = false) : gx ps = false := by
 rw [Bool.eq_false_iff]; intro e
 have := List.all_eq_true.1 e k (List.mem_range.2 hk)
 simp [h] at this
theorem Ah {ps : List Int} (h : ∀ j, j < ps.length → nE j (gi ps j) = true) : gx ps = true :=
 List.all_eq_true.2 fun j hj => h j (List.mem_range.1 hj)
theorem yW {ps : List Int} (h : gx ps = true) {j : Nat} (hj : j < ps.length) : nE j (gi ps j) = true :=
 List.all_eq_true.1 h j (List.mem_range.2 hj)
def dm (p : Nat → Bool) : Nat → Int
 | 0 => -1
 | n + 1 => if dm p n = -1 then (if p n then (n : Int) else -1) else dm p n
theorem kV (p : Nat → Bool) (n : Nat) : dm p (n + 1) = if dm p n = -1 then (if p n then (n : Int) else -1) else dm p n := rfl
theorem eN {p : Nat → Bool} : ∀ {n : Nat}, (∀ j, j < n → p j = false) → dm p n = -1
 | 0, _ => rfl
 | n + 1, h => by
  rw [kV, if_pos (eN fun j hj => h j (by omega)), h n (by omega)]; rfl
theorem gF {p : Nat → Bool} {k : Nat} : ∀ {n : Nat}, k < n → (∀ j, j < k → p j = false) → p k = true → dm p n = k
 | 0, h, _, _ => absurd h (Nat.not_lt_zero _)
 | n + 1, hk, h, hp => by
  rw [kV]
  by_cases e : k = n
  ·subst e; rw [if_pos (eN h), hp]; rfl
  ·rw [gF (by omega) h hp, if_neg (by omega)]
theorem Bc (p : Nat → Bool) (n : Nat) : -1 ≤ dm p n ∧ dm p n < n ∧ (dm p n = -1 ∨ 0 ≤ dm p n) := by
 induction n with
 | zero => simp [dm]
 | succ n ih => rw [kV]; split <;> (try split) <;> omega
theorem gG (p : Nat → Bool) (n : Nat) : decide (0 ≤ dm p n) = (List.range n).any p := by
 induction n with
 | zero => simp [dm]
 | succ n ih =>
  have hl := Bc p n
  rw [List.range_succ, List.any_append, ← ih, kV]
  by_cases h : dm p n = -1
  ·rw [if_pos h, h]; cases hp : p n <;> simp [hp]
  ·rw [if_neg h]; have : 0 ≤ dm p n := by omega
   simp [this]
theorem nZ {p : Nat → Bool} {n k : Nat} (h : dm p n = k) : k < n ∧ p k = true ∧ ∀ j, j < k → p j = false := by
 induction n with
 | zero => simp [dm] at h
 | succ n ih =>
  rw [kV] at h
  by_cases h1 : dm p n = -1
  ·rw [if_pos h1] at h
   by_cases hp : p n = true
   ·rw [if_pos hp] at h
    obtain rfl : n = k := by omega
    refine ⟨by omega, hp, fun j hj => ?_⟩
    cases hq : p j with
    | false => rfl
    | true =>
     exfalso
     have := gG p n
     rw [h1] at this
     have h2 : (List.range n).any p = true := List.any_eq_true.2 ⟨j, List.mem_range.2 hj, hq⟩
     rw [h2] at this; simp at this
   ·rw [if_neg hp] at h; omega
  ·rw [if_neg h1] at h
   have := ih h
   exact ⟨by omega, this.2⟩
end
section
def gT (ns : List ByteArray) (k : Nat) : List Int := ((List.range k).filter fun i => (gs ns i).size ≠ 0).map fun (i : Nat) => (i : Int)
theorem xm (ns : List ByteArray) (k : Nat) : gT ns (k + 1) = gT ns k ++ (if (gs ns k).size = 0 then [] else [(k : Int)]) := by
 unfold gT
 rw [List.range_succ, List.filter_append, List.map_append]
 congr 1
 by_cases h : (gs ns k).size = 0
 ·have h2 : decide ((gs ns k).size ≠ 0) = false := by rw [decide_eq_false_iff_not]; exact fun e => e h
  rw [if_pos h]; simp only [List.filter_cons, h2, List.filter_nil]; rfl
 ·have h2 : decide ((gs ns k).size ≠ 0) = true := by rw [decide_eq_true_eq]; exact h
  rw [if_neg h]; simp only [List.filter_cons, h2, List.filter_nil]; rfl
theorem zq (ns : List ByteArray) (k : Nat) : (gT ns k).length ≤ k := by
 unfold gT; rw [List.length_map]; exact Nat.le_trans (List.length_filter_le _ _) (by simp)
end
section
def cA (ps : List Int) (n k : Nat) : List Nat := (List.range k).filter fun i => decide (n < i) && gi ps i == (n : Int)
def bO (ps : List Int) (n : Nat) : List Nat := cA ps n ps.length
def e9 (l : List Nat) : List Int := l.map fun (i : Nat) => (i : Int)
theorem lW (ps : List Int) (n k : Nat) : cA ps n (k + 1) = cA ps n k ++ (if n < k ∧ gi ps k = n then [k] else []) := by
 unfold cA
 rw [List.range_succ, List.filter_append]
 congr 1
 by_cases h : n < k ∧ gi ps k = n
 ·rw [if_pos h]; simp [h.1, h.2]
 ·rw [if_neg h]
  have : (decide (n < k) && gi ps k == (n : Int)) = false := by
   rw [Bool.eq_false_iff]; intro e; apply h; simpa using e
  simp [this]
theorem Js (ps : List Int) (n : Nat) : cA ps n (n + 1) = [] := by
 unfold cA
 rw [List.filter_eq_nil_iff]; intro a ha; have := List.mem_range.1 ha; simp; omega
theorem qi (ps : List Int) (n k : Nat) : (cA ps n k).length ≤ k := by
 unfold cA; exact Nat.le_trans (List.length_filter_le _ _) (by simp)
theorem cC {ps : List Int} {n i : Nat} : i ∈ bO ps n ↔ i < ps.length ∧ n < i ∧ gi ps i = n := by
 unfold bO cA; rw [List.mem_filter, List.mem_range]; simp
theorem E7 (a b : List Nat) : e9 (a ++ b) = e9 a ++ e9 b := List.map_append
theorem kW {ps : List Int} (h : gx ps = true) (n : Nat) : bO ps n ≠ [] ↔ isIn ps n = true := by
 constructor
 ·intro hne
  obtain ⟨i, hi⟩ := List.exists_mem_of_ne_nil _ hne
  obtain ⟨h1, h2, h3⟩ := cC.1 hi
  exact List.any_eq_true.2 ⟨i, List.mem_range.2 h1, by simp [h3]; omega⟩
 ·intro hin
  obtain ⟨i, hi, h2⟩ := List.any_eq_true.1 hin
  have hi := List.mem_range.1 hi
  simp at h2
  have := yW h hi
  unfold nE at this
  rw [if_neg (by omega)] at this
  simp at this
  exact List.ne_nil_of_mem (cC.2 ⟨hi, by omega, h2.2⟩)
end
section
theorem any_none {p : Nat → Bool} {n : Nat} (h : ∀ j, j < n → p j = false) : (List.range n).any p = false := by
 rw [Bool.eq_false_iff]; intro e
 obtain ⟨j, hj, hp⟩ := List.any_eq_true.1 e
 rw [h j (List.mem_range.1 hj)] at hp; cases hp
theorem Bd {p : Nat → Bool} {n k : Nat} (hk : k < n) (hp : p k = true) : (List.range n).any p = true := List.any_eq_true.2 ⟨k, List.mem_range.2 hk, hp⟩
theorem any_false {p : Nat → Bool} {n : Nat} (h : (List.range n).any p = false) {k : Nat} (hk : k < n) : p k = false := by
 cases e : p k with
 | false => rfl
 | true => rw [Bd hk e] at h; cases h
end
section
end
section
section
variable {n m : Nat} {par own : Nat → Int} {cost : Nat → Nat → Int}
end
end
section
section
variable {n m : Nat} {par own : Nat → Int} {cost : Nat → Nat → Int}
end
end
section
end
section
theorem aP {t : aJ} (h : aK t = 0) : 0 < t.ps.length ∧ t.ps.length ≤ 64 ∧ t.ns.length = t.ps.length ∧ gx t.ps = true ∧ ∀ i, i < t.ps.length → jv t.ps t.ns i = 0 := by
 unfold aK at h
 split at h
 ·cases h
 ·split at h
  ·cases h
  ·split at h
   ·cases h
   ·split at h
    ·exact ⟨by omega, by omega, by omega, ‹_›, jd h⟩
    ·cases h
theorem kI {ns : List ByteArray} {x : Int} : x ∈ bD ns ↔ ∃ i : Nat, x = i ∧ i < ns.length ∧ (gs ns i).size ≠ 0 := by
 unfold bD
 rw [List.mem_map]
 constructor
 ·rintro ⟨i, hi, rfl⟩
  rw [List.mem_filter, List.mem_range] at hi
  exact ⟨i, rfl, hi.1, by simpa using hi.2⟩
 ·rintro ⟨i, rfl, h1, h2⟩
  exact ⟨i, by rw [List.mem_filter, List.mem_range]; exact ⟨h1, by simpa using h2⟩, rfl⟩
theorem Jt (ns : List ByteArray) : (bD ns).length ≤ ns.length := by
 unfold bD; rw [List.length_map]; exact Nat.le_trans (List.length_filter_le _ _) (by simp)
theorem qj {l : List Int} {k : Nat} (h : k < l.length) : gi l k ∈ l := by simp [gi, h]
theorem Nz {ps : List Int} (h : gx ps = true) {c : Nat} (hc : c < ps.length) : gi ps c < c ∧ (0 < c → 0 ≤ gi ps c) ∧ (c = 0 → gi ps c = -1) := by
 have := yW h hc
 unfold nE at this
 split at this
 ·simp at this; omega
 ·simp at this; omega
theorem ud {t : aJ} (h : aK t = 0) {i c : Nat} (hc : c < t.ps.length) (hi : i < c) (hp : gi t.ps c = i) : (gs t.ns i).size = 0 := by
 obtain ⟨_, _, _, hok, hn⟩ := aP h
 have hin : isIn t.ps i = true := List.any_eq_true.2 ⟨c, List.mem_range.2 hc, by simp [hp]; omega⟩
 have := hn i (by omega)
 unfold jv at this
 rw [if_pos hin] at this
 by_cases e : (gs t.ns i).size = 0
 ·exact e
 ·rw [if_neg e] at this; cases this
theorem vq {t : aJ} (h : aK t = 0) {i : Nat} (hi : i < t.ps.length) (hin : isIn t.ps i = false) : bM (gs t.ns i).data.toList = true ∧ dO t.ns i = false := by
 obtain ⟨_, _, _, hok, hn⟩ := aP h
 have := hn i hi
 unfold jv at this
 rw [hin] at this
 cases h1 : bM (gs t.ns i).data.toList
 ·rw [h1] at this; cases this
 ·cases h2 : dO t.ns i
  ·exact ⟨rfl, rfl⟩
  ·rw [h1, h2] at this; cases this
end
section
section
variable {t : aJ} {st : List Int} {cs : List (List Int)}
end
end
section
end
section
section
variable {n m : Nat} {par own own' : Nat → Int} {cost : Nat → Nat → Int}
end
end
section
theorem Q6 {ns : List ByteArray} {i : Nat} (hi : i < (bD ns).length) : ∃ k : Nat, gi (bD ns) i = k ∧ k < ns.length ∧ (gs ns k).size ≠ 0 := by
 obtain ⟨k, e, h1, h2⟩ := kI.1 (qj hi)
 exact ⟨k, e, h1, h2⟩
section
variable {t : aJ} {st : List Int} {cs : List (List Int)}
end
end
section
end
section
end
section
open Go.RowKit Go.Deep

def aC (S : Nat → Prop) (w : World) (v : Value) (n : Nat) (f : Nat → Value) : Prop :=
 ∃ p cap, v = .slice p n cap ∧ n ≤ cap ∧ (n = 0 ∨ ∃ b off, p = some ⟨b, off, none⟩ ∧ S b ∧ ∀ k, k < n → w.cell? ⟨b, off + k, none⟩ = some (f k))
def an (S : Nat → Prop) (w : World) (v : Value) (xs : List Int) : Prop := aC S w v xs.length (fun k => .int .i64 (gi xs k))
def aG (S : Nat → Prop) (w : World) (v : Value) (xs : List ByteArray) : Prop := aC S w v xs.length (fun k => .string (gs xs k))
def aR (S : Nat → Prop) (w : World) (v : Value) (xs : List (List Int)) : Prop := ∃ f, aC S w v xs.length f ∧ ∀ k, k < xs.length → an S w (f k) (gl xs k)
def aO (S : Nat → Prop) (w : World) (v : Value) (t : aJ) : Prop := ∃ P N, v = .agg #[P, N] ∧ an S w P t.ps ∧ aG S w N t.ns

def Kept (S : Nat → Prop) (w w' : World) : Prop := ∀ b, S b → b < w.heap.size → w'.heap[b]? = w.heap[b]?
def Any (_ : Nat) : Prop := True

theorem aC.keep {S : Nat → Prop} {w w' : World} {v : Value} {n : Nat} {f : Nat → Value} (h : aC S w v n f) (k : Kept S w w') : aC S w' v n f := by
 obtain ⟨p, cap, rfl, hn, h⟩ := h
 refine ⟨p, cap, rfl, hn, ?_⟩
 rcases h with h | ⟨b, off, rfl, hS, h⟩
 ·exact .inl h
 ·refine .inr ⟨b, off, rfl, hS, fun i hi => ?_⟩
  have hlt : b < w.heap.size := World.block_lt_of_cell? w _ (h i hi)
  rw [World.cell?_of_block (a := ⟨b, off + i, none⟩) (k b hS hlt)]
  exact h i hi
theorem an.keep {S : Nat → Prop} {w w' : World} {v : Value} {xs : List Int} (h : an S w v xs) (k : Kept S w w') : an S w' v xs := aC.keep h k
theorem aG.keep {S : Nat → Prop} {w w' : World} {v : Value} {xs : List ByteArray} (h : aG S w v xs) (k : Kept S w w') : aG S w' v xs := aC.keep h k
theorem aR.keep {S : Nat → Prop} {w w' : World} {v : Value} {xs : List (List Int)} (h : aR S w v xs) (k : Kept S w w') : aR S w' v xs := by
 obtain ⟨f, h, hr⟩ := h
 exact ⟨f, h.keep k, fun i hi => (hr i hi).keep k⟩
theorem aO.keep {S : Nat → Prop} {w w' : World} {v : Value} {t : aJ} (h : aO S w v t) (k : Kept S w w') : aO S w' v t := by
 obtain ⟨P, N, rfl, h1, h2⟩ := h
 exact ⟨P, N, rfl, h1.keep k, h2.keep k⟩
theorem aC.sub {S T : Nat → Prop} {w : World} {v : Value} {n : Nat} {f : Nat → Value} (h : aC S w v n f) (k : ∀ b, S b → b < w.heap.size → T b) : aC T w v n f := by
 obtain ⟨p, cap, rfl, hn, h⟩ := h
 refine ⟨p, cap, rfl, hn, ?_⟩
 rcases h with h | ⟨b, off, rfl, hS, h⟩
 ·exact .inl h
 ·by_cases hn0 : n = 0
  ·exact .inl hn0
  ·exact .inr ⟨b, off, rfl, k b hS (World.block_lt_of_cell? w _ (h 0 (by omega))), h⟩
theorem an.sub {S T : Nat → Prop} {w : World} {v : Value} {xs : List Int} (h : an S w v xs) (k : ∀ b, S b → b < w.heap.size → T b) : an T w v xs := aC.sub h k
theorem aG.sub {S T : Nat → Prop} {w : World} {v : Value} {xs : List ByteArray} (h : aG S w v xs) (k : ∀ b, S b → b < w.heap.size → T b) : aG T w v xs := aC.sub h k
theorem aR.sub {S T : Nat → Prop} {w : World} {v : Value} {xs : List (List Int)} (h : aR S w v xs) (k : ∀ b, S b → b < w.heap.size → T b) : aR T w v xs := by
 obtain ⟨f, h, hr⟩ := h
 exact ⟨f, h.sub k, fun i hi => (hr i hi).sub k⟩
theorem Kept.below {S : Nat → Prop} {a b : World} (h : Below a.heap.size a b) : Kept S a b := fun i _ hl => h.block i hl
theorem aC.open {S : Nat → Prop} {w : World} {v : Value} {n : Nat} {f : Nat → Value} (h : aC S w v n f) :
  ∃ p cap, v = .slice p n cap ∧ n ≤ cap ∧ ∀ k, k < n → ∃ b off, p = some ⟨b, off, none⟩ ∧ w.cell? ⟨b, off + k, none⟩ = some (f k) := by
 obtain ⟨p, cap, rfl, hn, h⟩ := h
 refine ⟨p, cap, rfl, hn, fun k hk => ?_⟩
 rcases h with h | ⟨b, off, rfl, _, h⟩
 ·omega
 ·exact ⟨b, off, rfl, h k hk⟩
theorem below_drewN {B : Nat} {a w : World} (h : Below B a w) (n : Nat) : Below B a (w.drewN n) := ⟨h.os, h.tape, h.output, h.size, h.block⟩
theorem aQ {k : IntKind} {a b : Int} (h : a = b) : Ending.returned (.int k a) = .returned (.int k b) := by rw [h]
theorem aZ {a b : Bool} (h : a = b) : Ending.returned (.bool a) = .returned (.bool b) := by rw [h]
end Go.Proofs.YtpnmblnahjjmhaaGreat
namespace Go.Proofs
open Go.Shelf
open Go.RowKit in
open Go.RowKit in
end Go.Proofs
namespace Go.Proofs.YtpnmblnahjjmhaaGreat
open Go.RowKit Go.Deep
def Wn : ByteArray := ⟨#[46, 44, 59, 58, 33, 63, 40, 41, 45]⟩
theorem Wo : ∀ c, c < 256 → (decide (0 ≤ Lib.indexByte Wn.data.toList c.toUInt8)) = vo c := by
 decide +kernel
theorem ofk {a b : Int} (h : a = b) {w w' : World} (hw : w = w') : Ending.returned (.int .i64 a) = .returned (.int .i64 b) ∧ w = w' := ⟨by rw [h], hw⟩
theorem Vp {c : Nat} {x : Int} (hc : c < 256) (hx : Lib.indexByte [46, 44, 59, 58, 33, 63, 40, 41, 45] ((c : Int).toNat).toUInt8 = x) : 0 ≤ x ↔ vo c = true := by
 have h := Wo c hc
 rw [← h, ← hx]; simp [Wn]
set_option maxHeartbeats 400000 in
theorem Wp (c : Nat) (hc : c < 256) (w : World) : Calls Tryz.prog 273 #[.int .u8 c] w fun e w' => e = .returned (.int .i64 (dN c)) ∧ w = w' := by
 aq Tryz.func273, Tryz.ntmps273
 aa (bg 281; refine (Tryz.strings_IndexByte _ _ _).mono ?_; rintro e w' ⟨rfl, rfl⟩; generalize hx : Lib.indexByte _ _ = x)
 all_goals (try ax)
 all_goals (refine ofk ?_ rfl)
 all_goals (first | (have h5 := Vp hc ‹Lib.indexByte _ _ = _›; unfold dN isLet; by_cases hp : vo c = true <;> simp only [hp] at * <;> simp at * <;> omega) | (simp [dN, isLet, vo] at *; done) | (simp [dN, isLet, vo] at *; omega))
end
section
open Go.RowKit Go.Deep
theorem rR (c : UInt8) : (dN c.toNat = 1 ∨ dN c.toNat = 3) ↔ rQ c = true := by
 unfold dN rQ isLet; simp only [Bool.or_eq_true, Bool.and_eq_true, decide_eq_true_eq]
 repeat' split
 all_goals simp at *
 all_goals omega
theorem CL (l : List UInt8) : j9 l ≤ l.length := List.countP_le_length
theorem NA (l : List UInt8) (c : UInt8) : j9 (l ++ [c]) = j9 l + if rQ c then 1 else 0 := by
 simp [j9, List.countP_append, List.countP_cons]
theorem NB (s : ByteArray) (k : Nat) (h : k < s.size) : s.data.toList.take (k + 1) = s.data.toList.take k ++ [s[k]] := by
 rw [List.take_succ_eq_append_getElem (by simpa using h)]; rfl
theorem Fq (l : List UInt8) : j9 l = l.length ↔ l.all rQ = true := by
 simp [j9, List.countP_eq_length]
theorem xu (s : ByteArray) (k : Nat) (h : k < s.size) : j9 (s.data.toList.take (k + 1)) = j9 (s.data.toList.take k) + if rQ s[k] then 1 else 0 := by
 rw [NB s k h, NA]
set_option maxHeartbeats 400000 in
theorem NC (s : ByteArray) (hs : s.size ≤ 70000) (w : World) : Calls Tryz.prog 217 #[.string s] w fun e w' => e = .returned (.int .i64 (j9 s.data.toList)) ∧ w = w' := by
 aq Tryz.func217, Tryz.ntmps217
 dV
 dD [3, 4, 5, 8] (fun n _ _ i => ∃ k : Nat, k ≤ s.size ∧ i = .int .i64 k ∧ n = .int .i64 (j9 (s.data.toList.take k))) (fun _ _ _ i => s.size - (intOf i).toNat)
 case atStart => exact ⟨0, Nat.zero_le _, rfl, rfl⟩
 case round =>
  obtain ⟨k, hk, rfl, rfl⟩ := bE
  have hb : j9 (s.data.toList.take k) ≤ 70000 := Nat.le_trans (CL _) (by simp; omega)
  by_cases hlt : k < s.size
  ·have hst := xu s k hlt
   have hk' := rR s[k]
   have hc : s[k].toNat < 256 := s[k].toNat_lt
   generalize hm : j9 (s.data.toList.take k) = m at *
   have HS := ag hst
   have HK := ag hk'
   clear hst hm hk'
   aa (bg 273; refine (Wp _ hc _).mono ?_; rintro e w' ⟨rfl, rfl⟩; generalize dN _ = q at *)
   all_goals
    cz
    case rel => exact ⟨k + 1, by omega, by aH, by rw [HS.out]; first | (rw [if_pos (HK.out.1 (by first | omega | (simp only [beq_iff_eq] at *; omega)))]; aH) | (rw [if_neg (fun h => by have := HK.out.2 h; simp only [beq_eq_false_iff_ne, ne_eq] at *; omega)]; aH)⟩
    case measure => simp [intOf]; omega
  ·dV
   ax
   exact ⟨aQ (by rw [List.take_of_length_le (by simp; omega)]), rfl⟩
set_option maxHeartbeats 400000 in
theorem rS (s : ByteArray) (hs : s.size ≤ 70000) (w : World) : Calls Tryz.prog 164 #[.string s] w fun e w' => e = .returned (.bool (fA s.data.toList)) ∧ w = w' := by
 have hl : s.data.toList.length = s.size := by simp
 have ha := Fq s.data.toList
 have hle := CL s.data.toList
 have he : s.data.toList = [] ↔ s.size = 0 := by rw [← List.length_eq_zero_iff, hl]
 rw [hl] at ha hle
 have HA := ag ha
 have HL := ag hl
 have HE := ag he
 clear ha hl he
 have hE1 := toList_nil s
 have dx : fA s.data.toList = decide (1 ≤ s.size ∧ s.size ≤ 16 ∧ j9 s.data.toList = s.size) := by
  unfold fA; rw [HL.out, Bool.eq_iff_iff]; simp only [Bool.and_eq_true, decide_eq_true_eq]; rw [← HA.out, and_assoc]
 have HF := ag dx
 have JT := ag hE1
 clear dx hE1 HA HL HE
 generalize hm : j9 s.data.toList = m at *
 have HM := ag hm
 clear hm
 aq Tryz.func164, Tryz.ntmps164
 aa (bg 217; refine (NC _ hs _).mono ?_; rintro e w' ⟨rfl, rfl⟩; rw [HM.out])
 all_goals ax
 all_goals refine ⟨aZ ?_, rfl⟩
 all_goals rw [HF.out]
 ·have := JT.out.1 ‹_›; simp; omega
 ·have hne : ¬ s.size = 0 := fun h => ‹¬ s.toList = []› (JT.out.2 h)
  have vr : s.toList.isEmpty = false := by simpa using ‹¬ s.toList = []›
  rw [Bool.eq_iff_iff]; simp [vr]; omega
 ·simp; omega

theorem Q7 : rQ 42 = false := by decide
theorem xw (l : List UInt8) (h : l.getLast? = some 42) : fA l = false := by
 obtain ⟨a, rfl⟩ := List.getLast?_eq_some_iff.1 h
 simp [fA, Q7]
theorem Fs (s : ByteArray) (h1 : 1 ≤ s.size) : (s.extract (s.size - 1) s.size).toList = [42] ↔ s.data.toList.getLast? = some 42 := by
 have hl := size_data s
 rw [toList_data, ByteArray.data_extract, Array.toList_extract, List.extract_eq_take_drop]
 generalize s.data.toList = l at *
 have hne : l ≠ [] := by intro e; rw [e] at hl; simp at hl; omega
 rw [← hl]
 clear hl h1
 obtain ⟨a, x, rfl⟩ : ∃ a x, l = a ++ [x] := ⟨l.dropLast, l.getLast hne, (List.dropLast_concat_getLast hne).symm⟩
 simp
theorem Ft (s : ByteArray) : (s.extract 0 (s.size - 1)).data.toList = s.data.toList.dropLast := by
 have hl := size_data s
 rw [ByteArray.data_extract, Array.toList_extract, List.extract_eq_take_drop, List.dropLast_eq_take, hl]
 simp
def Vq (s : ByteArray) (e : Ending) : Prop := (s.data.toList.getLast? = some 42 ∧ ∃ r : ByteArray, r.size ≤ s.size ∧ r.data.toList = s.data.toList.dropLast ∧ e = .returned (.tuple #[.string r, .bool true])) ∨ (s.data.toList.getLast? ≠ some 42 ∧ e = .returned (.tuple #[.string s, .bool false]))
set_option maxHeartbeats 400000 in
theorem Q8 (s : ByteArray) (hs : s.size ≤ 70000) (w : World) : Calls Tryz.prog 230 #[.string s, .string ⟨#[42]⟩] w fun e w' => Vq s e ∧ w = w' := by
 by_cases h0 : s.size = 0
 ·have hc : s.data.toList = [] := by rw [← toList_data]; exact (toList_nil s).2 h0
  have HC := ag hc
  clear hc
  aq Tryz.func230, Tryz.ntmps230
  dV
  pE
  exact ⟨.inr ⟨by rw [HC.out]; simp, rfl⟩, rfl⟩
 ·have h1 : 1 ≤ s.size := by omega
  clear h0
  aq Tryz.func230, Tryz.ntmps230
  dV
  ·pE
   refine ⟨.inr ⟨fun e => ?_, rfl⟩, rfl⟩
   have := (Fs s h1).2 e
   vt
  ·pE
   have h2 := ‹(!(s.extract (s.size - 1) s.size).toList == [42]) = false›
   exact ⟨.inl ⟨(Fs s h1).1 (by simpa using h2), s.extract 0 (s.size - 1), by simp, Ft s, rfl⟩, rfl⟩
set_option maxHeartbeats 400000 in
theorem uE (s : ByteArray) (hs : s.size ≤ 70000) (w : World) : Calls Tryz.prog 174 #[.string s] w fun e w' => e = .returned (.bool (bM s.data.toList)) ∧ w = w' := by
 have hl := size_data s
 have HL := ag hl
 clear hl
 aq Tryz.func174, Tryz.ntmps174
 aa fail
 refine (Q8 s hs _).mono ?_
 rintro e w' ⟨⟨h1, r, hr, hd, rfl⟩ | ⟨h1, rfl⟩, rfl⟩
 ·have hf : bM s.data.toList = (decide (s.size ≤ 16) && fA r.data.toList) := by
   unfold bM; rw [if_pos h1, hd, HL.out, Bool.and_comm]
  have HF := ag hf
  clear hf hd h1
  aa (bg 164; refine (rS r (by omega) _).mono ?_; rintro e w' ⟨rfl, rfl⟩)
  all_goals
   ax
   refine ⟨aZ ?_, rfl⟩
   rw [HF.out, Bool.eq_iff_iff]
   simp at *
   try omega
 ·have hf : bM s.data.toList = fA s.data.toList := by unfold bM; rw [if_neg h1]
  have HF := ag hf
  clear hf h1
  aa (bg 164; refine (rS s hs _).mono ?_; rintro e w' ⟨rfl, rfl⟩)
  ax
  exact ⟨aZ (by rw [HF.out]), rfl⟩
end
section
open Go.RowKit Go.Deep
theorem JU {x y : ByteArray} (h : (x.toList == y.toList) = true) : x = y := by
 rw [beq_iff_eq, toList_data, toList_data] at h; exact uD h
theorem ND {x y : ByteArray} (h : (x.toList == y.toList) = false) : ¬ x = y := by
 rintro rfl; simp at h
set_option maxHeartbeats 400000 in
theorem zu (S : Nat → Prop) (w : World) (v : Value) (n : Nat) (f : Nat → ByteArray) (x : ByteArray) (h : aC S w v n (fun k => .string (f k))) (hn : n ≤ 1000000) :
  Calls Tryz.prog 131 #[v, .string x] w fun e w' => e = .returned (.int .i64 (dm (fun j => decide (x = f j)) n)) ∧ w = w' := by
 obtain ⟨p, cap, rfl, hcap, H⟩ := h.open
 clear h
 aq Tryz.func131, Tryz.ntmps131
 dV
 dD [5, 8] (fun _ i => ∃ k : Nat, k ≤ n ∧ i = .int .i64 k ∧ Hid (∀ j, j < k → decide (x = f j) = false)) (fun _ i => n - (intOf i).toNat)
 case atStart => exact ⟨0, Nat.zero_le _, rfl, fun j hj => absurd hj (Nat.not_lt_zero _)⟩
 case round =>
  obtain ⟨k, hk, rfl, hd⟩ := bE
  by_cases hlt : k < n
  ·obtain ⟨b, off, rfl, hc⟩ := H k hlt
   clear H
   dV
   ·have hx := JU ‹(x.toList == (f k).toList) = true›
    ax
    exact ⟨aQ (gF (p := fun j => decide (x = f j)) hlt hd.out (by simpa using hx)).symm, rfl⟩
   ·have hx := ND ‹(x.toList == (f k).toList) = false›
    cz
    case rel => exact ⟨k + 1, by omega, by aH, fun j hj => if e : j = k then by subst e; simpa using hx else hd.out j (by omega)⟩
    case measure => simp [intOf]; omega
  ·clear H
   dV
   ax
   exact ⟨aQ (eN fun j hj => hd.out j (by omega)).symm, rfl⟩
set_option maxHeartbeats 400000 in
theorem iH (S : Nat → Prop) (w : World) (v : Value) (n : Nat) (f : Nat → ByteArray) (x : ByteArray) (h : aC S w v n (fun k => .string (f k))) (hn : n ≤ 1000000) :
  Calls Tryz.prog 51 #[v, .string x] w fun e w' => e = .returned (.bool ((List.range n).any fun j => decide (x = f j))) ∧ w = w' := by
 have hx := gG (fun j => decide (x = f j)) n
 have HX := ag hx
 clear hx
 aq Tryz.func51, Tryz.ntmps51
 aa (bg 131; refine (zu S w v n f x h hn).mono ?_; rintro e w' ⟨rfl, rfl⟩)
 ax
 exact ⟨aZ (by rw [← HX.out]), rfl⟩
end
end Go.Proofs.YtpnmblnahjjmhaaGreat
