/- What the functions of layers 1 and 31 compute, as plain functions on lists. Plain: the .. -/
import Derived.Lib.Hide
set_option maxRecDepth 100000

namespace Go.Proofs.YthgabkgmkolobaaGreat
open Go.RowKit in
theorem aa {p : Prop} (h : p) : Hid p := h
theorem au {α : Type} {i : Nat} {a : α} {l : List α} : l.toArray.setIfInBounds i a = (l.set i a).toArray := List.setIfInBounds_toArray ..
theorem av {α : Type} {a b : α} {l : List α} : (a :: l).set 0 b = b :: l := List.set_cons_zero ..
theorem ax {α : Type} {n : Nat} {a b : α} {l : List α} : (a :: l).set (n + 1) b = a :: l.set n b := List.set_cons_succ ..
section
def gi (l : List Int) (k : Nat) : Int := l.getD k 0
def gs (l : List ByteArray) (k : Nat) : ByteArray := l.getD k ByteArray.empty
def gb (l : List Bool) (k : Nat) : Bool := l.getD k false
def gl (l : List (List Int)) (k : Nat) : List Int := l.getD k []
structure ay where
 ps : List Int
 ns : List ByteArray

theorem VH (bs : ByteArray) : ∀ (n i : Nat) (r : List UInt8), bs.size - i = n → ByteArray.toList.loop bs i r = r.reverse ++ bs.data.toList.drop i := by
 intro n
 induction n with
 | zero =>
  intro i r h
  unfold ByteArray.toList.loop
  rw [if_neg (by omega), List.drop_of_length_le (by simp; omega)]; simp
 | succ n ih =>
  intro i r h
  unfold ByteArray.toList.loop
  have hi : i < bs.size := by omega
  rw [if_pos hi, ih (i + 1) _ (by omega), List.reverse_cons, List.append_assoc]
  congr 1
  rw [List.drop_eq_getElem_cons (i := i) (by simpa using hi), List.singleton_append]
  congr 1
  simp [ByteArray.get!, getElem!_pos, hi]
theorem toList_data (s : ByteArray) : s.toList = s.data.toList := by
 unfold ByteArray.toList; rw [VH s _ 0 [] rfl]; simp
theorem toList_nil (s : ByteArray) : s.toList = [] ↔ s.size = 0 := by
 rw [toList_data, ← List.length_eq_zero_iff]; simp
theorem size_data (s : ByteArray) : s.data.toList.length = s.size := by simp
theorem eL {a b : ByteArray} (h : a.data.toList = b.data.toList) : a = b := by
 cases a; cases b; simpa using h
def isLet (c : Nat) : Bool := (97 ≤ c && c ≤ 122) || (65 ≤ c && c ≤ 90)
def vA (c : Nat) : Bool := c == 46 || c == 44 || c == 59 || c == 58 || c == 33 || c == 63 || c == 40 || c == 41 || c == 45
def cW (c : Nat) : Int := if isLet c then 1 else if c = 94 ∨ c = 126 ∨ c = 37 then 2 else if 48 ≤ c ∧ c ≤ 57 then 3 else if c = 39 then 4 else if c = 32 then 6 else if vA c then 5 else 0
def qz (c : UInt8) : Bool := isLet c.toNat || (48 ≤ c.toNat && c.toNat ≤ 57)
def jA (l : List UInt8) : Nat := l.countP qz
def dS (l : List UInt8) : Bool := 1 ≤ l.length && l.length ≤ 16 && l.all qz
def aY (l : List UInt8) : Bool := if l.getLast? = some 42 then dS l.dropLast && l.length ≤ 16 else dS l

def jb (i : Nat) (p : Int) : Bool := if i = 0 then p == -1 else decide (0 ≤ p) && decide (p < i)
def fZ (ps : List Int) : Bool := (List.range ps.length).all fun i => jb i (gi ps i)
def DI (ps : List Int) (n i : Nat) : Bool := (List.range n).any fun j => decide (0 < j) && gi ps j == (i : Int)
def isIn (ps : List Int) (i : Nat) : Bool := DI ps ps.length i
def dm (ns : List ByteArray) (i : Nat) : Bool := (List.range i).any fun j => decide (gs ns j = gs ns i)
def iu (ps : List Int) (ns : List ByteArray) (i : Nat) : Int :=
 if isIn ps i then (if (gs ns i).size = 0 then 0 else 14) else if aY (gs ns i).data.toList then (if dm ns i then 7 else 0) else 14
def firstNZ (f : Nat → Int) : Nat → Int
 | 0 => 0
 | n + 1 => if firstNZ f n = 0 then f n else firstNZ f n
def az (t : ay) : Int :=
 if t.ps.length = 0 then 5 else if 64 < t.ps.length then 4 else if t.ns.length ≠ t.ps.length then 9
 else if fZ t.ps then firstNZ (iu t.ps t.ns) t.ps.length else 2
def aj (ns : List ByteArray) : List Int := ((List.range ns.length).filter fun i => (gs ns i).size ≠ 0).map fun (i : Nat) => (i : Int)

theorem dJ {f : Nat → Int} : ∀ {n : Nat}, (∀ j, j < n → f j = 0) → firstNZ f n = 0
 | 0, _ => rfl
 | n + 1, h => by
  unfold firstNZ
  rw [if_pos (dJ fun j hj => h j (by omega))]; exact h n (by omega)
theorem fG {f : Nat → Int} {k : Nat} : ∀ {n : Nat}, k < n → (∀ j, j < k → f j = 0) → f k ≠ 0 → firstNZ f n = f k
 | 0, h, _, _ => absurd h (Nat.not_lt_zero _)
 | n + 1, hk, h, hne => by
  unfold firstNZ
  by_cases e : k = n
  ·subst e; rw [if_pos (dJ h)]
  ·rw [fG (by omega) h hne, if_neg hne]
theorem j9 {f : Nat → Int} : ∀ {n : Nat}, firstNZ f n = 0 → ∀ j, j < n → f j = 0
 | 0, _, j, hj => absurd hj (Nat.not_lt_zero _)
 | n + 1, h, j, hj => by
  unfold firstNZ at h
  split at h
  ·rename_i h0
   by_cases e : j = n
   ·subst e; exact h
   ·exact j9 h0 j (by omega)
  ·rename_i h0; exact absurd h h0
theorem FQ (ps : List Int) (n i : Nat) : DI ps (n + 1) i = (DI ps n i || (decide (0 < n) && gi ps n == (i : Int))) := by
 simp [DI, List.range_succ, List.any_append]
theorem FR {ps : List Int} {k : Nat} (hk : k < ps.length) (h : jb k (gi ps k) = false) : fZ ps = false := by
 rw [Bool.eq_false_iff]; intro e
 have := List.all_eq_true.1 e k (List.mem_range.2 hk)
 simp [h] at this
theorem Aq {ps : List Int} (h : ∀ j, j < ps.length → jb j (gi ps j) = true) : fZ ps = true :=
 List.all_eq_true.2 fun j hj => h j (List.mem_range.1 hj)
theorem CN {ps : List Int} (h : fZ ps = true) {j : Nat} (hj : j < ps.length) : jb j (gi ps j) = true :=
 List.all_eq_true.1 h j (List.mem_range.2 hj)
def b8 (p : Nat → Bool) : Nat → Int
 | 0 => -1
 | n + 1 => if b8 p n = -1 then (if p n then (n : Int) else -1) else b8 p n
theorem kJ (p : Nat → Bool) (n : Nat) : b8 p (n + 1) = if b8 p n = -1 then (if p n then (n : Int) else -1) else b8 p n := rfl
theorem jc {p : Nat → Bool} : ∀ {n : Nat}, (∀ j, j < n → p j = false) → b8 p n = -1
 | 0, _ => rfl
 | n + 1, h => by
  rw [kJ, if_pos (jc fun j hj => h j (by omega)), h n (by omega)]; rfl
theorem lB {p : Nat → Bool} {k : Nat} : ∀ {n : Nat}, k < n → (∀ j, j < k → p j = false) → p k = true → b8 p n = k
 | 0, h, _, _ => absurd h (Nat.not_lt_zero _)
 | n + 1, hk, h, hp => by
  rw [kJ]
  by_cases e : k = n
  ·subst e; rw [if_pos (jc h), hp]; rfl
  ·rw [lB (by omega) h hp, if_neg (by omega)]
theorem Bk (p : Nat → Bool) (n : Nat) : -1 ≤ b8 p n ∧ b8 p n < n ∧ (b8 p n = -1 ∨ 0 ≤ b8 p n) := by
 induction n with
 | zero => simp [b8]
 | succ n ih => rw [kJ]; split <;> (try split) <;> omega
theorem l7 (p : Nat → Bool) (n : Nat) : decide (0 ≤ b8 p n) = (List.range n).any p := by
 induction n with
 | zero => simp [b8]
 | succ n ih =>
  have hl := Bk p n
  rw [List.range_succ, List.any_append, ← ih, kJ]
  by_cases h : b8 p n = -1
  ·rw [if_pos h, h]; cases hp : p n <;> simp [hp]
  ·rw [if_neg h]; have : 0 ≤ b8 p n := by omega
   simp [this]
theorem rA {p : Nat → Bool} {n k : Nat} (h : b8 p n = k) : k < n ∧ p k = true ∧ ∀ j, j < k → p j = false := by
 induction n with
 | zero => simp [b8] at h
 | succ n ih =>
  rw [kJ] at h
  by_cases h1 : b8 p n = -1
  ·rw [if_pos h1] at h
   by_cases hp : p n = true
   ·rw [if_pos hp] at h
    obtain rfl : n = k := by omega
    refine ⟨by omega, hp, fun j hj => ?_⟩
    cases hq : p j with
    | false => rfl
    | true =>
     exfalso
     have := l7 p n
     rw [h1] at this
     have h2 : (List.range n).any p = true := List.any_eq_true.2 ⟨j, List.mem_range.2 hj, hq⟩
     rw [h2] at this; simp at this
   ·rw [if_neg hp] at h; omega
  ·rw [if_neg h1] at h
   have := ih h
   exact ⟨by omega, this.2⟩
end
section
def dx (ns : List ByteArray) (k : Nat) : List Int := ((List.range k).filter fun i => (gs ns i).size ≠ 0).map fun (i : Nat) => (i : Int)
theorem xF (ns : List ByteArray) (k : Nat) : dx ns (k + 1) = dx ns k ++ (if (gs ns k).size = 0 then [] else [(k : Int)]) := by
 unfold dx
 rw [List.range_succ, List.filter_append, List.map_append]
 congr 1
 by_cases h : (gs ns k).size = 0
 ·have h2 : decide ((gs ns k).size ≠ 0) = false := by rw [decide_eq_false_iff_not]; exact fun e => e h
  rw [if_pos h]; simp only [List.filter_cons, h2, List.filter_nil]; rfl
 ·have h2 : decide ((gs ns k).size ≠ 0) = true := by rw [decide_eq_true_eq]; exact h
  rw [if_neg h]; simp only [List.filter_cons, h2, List.filter_nil]; rfl
theorem J1 (ns : List ByteArray) (k : Nat) : (dx ns k).length ≤ k := by
 unfold dx; rw [List.length_map]; exact Nat.le_trans (List.length_filter_le _ _) (by simp)
end
section
def bI (ps : List Int) (n k : Nat) : List Nat := (List.range k).filter fun i => decide (n < i) && gi ps i == (n : Int)
def aS (ps : List Int) (n : Nat) : List Nat := bI ps n ps.length
def eo (l : List Nat) : List Int := l.map fun (i : Nat) => (i : Int)
theorem gq (ps : List Int) (n k : Nat) : bI ps n (k + 1) = bI ps n k ++ (if n < k ∧ gi ps k = n then [k] else []) := by
 unfold bI
 rw [List.range_succ, List.filter_append]
 congr 1
 by_cases h : n < k ∧ gi ps k = n
 ·rw [if_pos h]; simp [h.1, h.2]
 ·rw [if_neg h]
  have : (decide (n < k) && gi ps k == (n : Int)) = false := by
   rw [Bool.eq_false_iff]; intro e; apply h; simpa using e
  simp [this]
theorem zI (ps : List Int) (n : Nat) : bI ps n (n + 1) = [] := by
 unfold bI
 rw [List.filter_eq_nil_iff]; intro a ha; have := List.mem_range.1 ha; simp; omega
theorem pW (ps : List Int) (n k : Nat) : (bI ps n k).length ≤ k := by
 unfold bI; exact Nat.le_trans (List.length_filter_le _ _) (by simp)
theorem cr {ps : List Int} {n i : Nat} : i ∈ aS ps n ↔ i < ps.length ∧ n < i ∧ gi ps i = n := by
 unfold aS bI; rw [List.mem_filter, List.mem_range]; simp
theorem Fx (a b : List Nat) : eo (a ++ b) = eo a ++ eo b := List.map_append
theorem kK {ps : List Int} (h : fZ ps = true) (n : Nat) : aS ps n ≠ [] ↔ isIn ps n = true := by
 constructor
 ·intro hne
  obtain ⟨i, hi⟩ := List.exists_mem_of_ne_nil _ hne
  obtain ⟨h1, h2, h3⟩ := cr.1 hi
  exact List.any_eq_true.2 ⟨i, List.mem_range.2 h1, by simp [h3]; omega⟩
 ·intro hin
  obtain ⟨i, hi, h2⟩ := List.any_eq_true.1 hin
  have hi := List.mem_range.1 hi
  simp at h2
  have := CN h hi
  unfold jb at this
  rw [if_neg (by omega)] at this
  simp at this
  exact List.ne_nil_of_mem (cr.2 ⟨hi, by omega, h2.2⟩)
end
section
def iy (st : List Int) (least most : Int) : Bool := (List.range st.length).any fun k => decide (gi st k < least) || decide (most ≤ gi st k)
def mD (st : List Int) (n : Nat) (least most : Int) : Int := if st.length ≠ n then 9 else if iy st least most then 2 else 0
def L5 (a b : Nat) (c : Int) : Bool := decide (c < 0) || decide (1000 < c) || (decide (a = b) && decide (c ≠ 0))
def Xc (a : Nat) (row : List Int) (k : Nat) : Bool := (List.range k).any fun b => L5 a b (gi row b)
def KJ (cs : List (List Int)) (k : Nat) : Bool := (List.range k).any fun a => Xc a (gl cs a) (gl cs a).length
def NN (cs : List (List Int)) : Bool := (List.range cs.length).any fun a => decide ((gl cs a).length ≠ cs.length)
def nu (cs : List (List Int)) : Int := if cs.length = 0 then 5 else if 16 < cs.length then 4 else if NN cs then 9 else if KJ cs cs.length then 2 else 0
theorem any_none {p : Nat → Bool} {n : Nat} (h : ∀ j, j < n → p j = false) : (List.range n).any p = false := by
 rw [Bool.eq_false_iff]; intro e
 obtain ⟨j, hj, hp⟩ := List.any_eq_true.1 e
 rw [h j (List.mem_range.1 hj)] at hp; cases hp
theorem nv {p : Nat → Bool} {n k : Nat} (hk : k < n) (hp : p k = true) : (List.range n).any p = true := List.any_eq_true.2 ⟨k, List.mem_range.2 hk, hp⟩
theorem any_false {p : Nat → Bool} {n : Nat} (h : (List.range n).any p = false) {k : Nat} (hk : k < n) : p k = false := by
 cases e : p k with
 | false => rfl
 | true => rw [nv hk e] at h; cases h
def gJ (t : ay) (st : List Int) (cs : List (List Int)) : Int :=
 if az t ≠ 0 then 1 else if nu cs ≠ 0 then nu cs else mD st (aj t.ns).length (-1) cs.length
end
section
def bh (c row : Nat → Int) : Nat → Int × Int
 | 0 => (-1, 0)
 | k + 1 => if row k < 0 then bh c row k else if (bh c row k).1 < 0 ∨ c k + row k < (bh c row k).1 then (c k + row k, (k : Int)) else bh c row k
theorem lD (c row : Nat → Int) (k : Nat) : bh c row (k + 1) = if row k < 0 then bh c row k else if (bh c row k).1 < 0 ∨ c k + row k < (bh c row k).1 then (c k + row k, (k : Int)) else bh c row k := rfl
theorem FT {c row : Nat → Int} {A : Int} (hA : 0 ≤ A) (hc : ∀ k, 0 ≤ c k ∧ c k ≤ 1000) (hr : ∀ k, row k ≤ A) (k : Nat) : -1 ≤ (bh c row k).1 ∧ (bh c row k).1 ≤ A + 1000 := by
 induction k with
 | zero => simp [bh]; omega
 | succ k ih =>
  rw [lD]
  have := hc k; have := hr k
  split
  ·exact ih
  ·split
   ·simp; omega
   ·exact ih
end
section
def aZ (f : Nat → Int) : Nat → Int
 | 0 => 0
 | n + 1 => aZ f n + f n
theorem dK (f : Nat → Int) (n : Nat) : aZ f (n + 1) = aZ f n + f n := rfl
theorem bQ {f g : Nat → Int} : ∀ {n : Nat}, (∀ c, c < n → f c = g c) → aZ f n = aZ g n
 | 0, _ => rfl
 | n + 1, h => by rw [dK, dK, bQ fun c hc => h c (by omega), h n (by omega)]
theorem mE (f g : Nat → Int) : ∀ n : Nat, aZ (fun c => f c + g c) n = aZ f n + aZ g n
 | 0 => rfl
 | n + 1 => by rw [dK, dK, dK, mE f g n]; omega
theorem pX {f g : Nat → Int} : ∀ {n : Nat}, (∀ c, c < n → f c ≤ g c) → aZ f n ≤ aZ g n
 | 0, _ => Int.le_refl _
 | n + 1, h => by
  rw [dK, dK]
  have := pX (f := f) (g := g) (n := n) fun c hc => h c (by omega)
  have := h n (by omega); omega
theorem kL : ∀ n : Nat, aZ (fun _ => 0) n = 0
 | 0 => rfl
 | n + 1 => by rw [dK, kL n]; rfl
theorem pF {f : Nat → Int} {n : Nat} (h : ∀ c, c < n → 0 ≤ f c) : 0 ≤ aZ f n := by
 have := pX (f := fun _ => 0) (g := f) (n := n) h
 rw [kL] at this; exact this
theorem rB (k : Nat) (x : Int) : ∀ n : Nat, aZ (fun c => if c = k then x else 0) n = if k < n then x else 0
 | 0 => rfl
 | n + 1 => by
  rw [dK, rB k x n]
  by_cases h : n = k
  ·subst h; simp
  ·by_cases h2 : k < n
   ·simp [h, h2]; omega
   ·simp [h, h2]; omega
theorem xG (ps : List Int) (i : Nat) (g : Nat → Int) : ∀ n : Nat, ((bI ps i n).map g).sum = aZ (fun c => if i < c ∧ gi ps c = i then g c else 0) n
 | 0 => rfl
 | n + 1 => by
  rw [gq, List.map_append, List.sum_append, xG ps i g n, dK]
  split <;> simp
def vB (n m : Nat) (par own : Nat → Int) (cost : Nat → Nat → Int) (look : Nat → Nat → Int) (i s : Nat) : Int :=
 (if 0 ≤ own i ∧ own i ≠ s then -1 else 0) + aZ (fun c => if i < c ∧ par c = i then (bh (cost s) (look c) m).1 else 0) n
def L6 (n m : Nat) (par own : Nat → Int) (cost : Nat → Nat → Int) : Nat → Nat → Nat → Int
 | 0 => fun _ _ => 0
 | d + 1 => vB n m par own cost (L6 n m par own cost d)
def tab (n m : Nat) (par own : Nat → Int) (cost : Nat → Nat → Int) (i s : Nat) : Int := L6 n m par own cost n i s
theorem l8 {c c' r r' : Nat → Int} : ∀ {k : Nat}, (∀ j, j < k → c j = c' j) → (∀ j, j < k → r j = r' j) → bh c r k = bh c' r' k
 | 0, _, _ => rfl
 | k + 1, h1, h2 => by
  rw [lD, lD, l8 (fun j hj => h1 j (by omega)) (fun j hj => h2 j (by omega)), h1 k (by omega), h2 k (by omega)]
section
variable {n m : Nat} {par own : Nat → Int} {cost : Nat → Nat → Int}
theorem DJ : ∀ {d e i : Nat}, n ≤ i + d → n ≤ i + e → i < n → ∀ s, L6 n m par own cost d i s = L6 n m par own cost e i s
 | 0, _, _, h, _, hi, _ => by omega
 | _, 0, _, _, h, hi, _ => by omega
 | d + 1, e + 1, i, h1, h2, hi, s => by
  show vB _ _ _ _ _ _ _ _ = vB _ _ _ _ _ _ _ _
  unfold vB
  congr 1
  refine bQ fun c hc => ?_
  split
  ·rename_i hk
   rw [l8 (fun _ _ => rfl) fun j _ => DJ (d := d) (e := e) (by omega) (by omega) hc j]
  ·rfl
theorem FU {i : Nat} (hi : i < n) (s : Nat) : tab n m par own cost i s = vB n m par own cost (tab n m par own cost) i s := by
 unfold tab
 obtain ⟨d, rfl⟩ : ∃ d, n = d + 1 := ⟨n - 1, by omega⟩
 show vB _ _ _ _ _ _ _ _ = _
 unfold vB
 congr 1
 refine bQ fun c hc => ?_
 split
 ·rename_i hk
  rw [l8 (fun _ _ => rfl) fun j _ => DJ (d := d) (e := d + 1) (by omega) (by omega) hc j]
 ·rfl
structure Xd (n m : Nat) (par own : Nat → Int) (cost : Nat → Nat → Int) : Prop where
 m1 : 0 < m
 par0 : ∀ c, 0 < c → c < n → 0 ≤ par c
 Uh : ∀ c, c < n → par c < c
 own1 : ∀ i, i < n → -1 ≤ own i ∧ own i < m
 L8 : ∀ a b, a < m → b < m → 0 ≤ cost a b ∧ cost a b ≤ 1000
 leaf : ∀ i c, c < n → i < c → par c = i → own i = -1
theorem vC {c row : Nat → Int} {A : Int} (hA : 0 ≤ A) : ∀ {k : Nat}, (∀ j, j < k → 0 ≤ c j ∧ c j ≤ 1000) → (∀ j, j < k → row j ≤ A) →
  ((bh c row k).1 = -1 ∧ (∀ j, j < k → row j < 0)) ∨
  (∃ o : Nat, (bh c row k).2 = o ∧ o < k ∧ 0 ≤ row o ∧ (bh c row k).1 = c o + row o ∧ (∀ j, j < k → 0 ≤ row j → (bh c row k).1 ≤ c j + row j) ∧ (∀ j, j < o → 0 ≤ row j → (bh c row k).1 < c j + row j))
 | 0, _, _ => .inl ⟨rfl, fun j hj => absurd hj (Nat.not_lt_zero _)⟩
 | k + 1, hc, hr => by
  have ih := vC (c := c) (row := row) hA (k := k) (fun j hj => hc j (by omega)) fun j hj => hr j (by omega)
  have xH := hc k (by omega)
  rw [lD]
  by_cases h0 : row k < 0
  ·rw [if_pos h0]
   rcases ih with ⟨h1, h2⟩ | ⟨o, h1, h2, h3, h4, h5, h6⟩
   ·exact .inl ⟨h1, fun j hj => if e : j = k then e ▸ h0 else h2 j (by omega)⟩
   ·refine .inr ⟨o, h1, by omega, h3, h4, fun j hj hj0 => ?_, h6⟩
    by_cases e : j = k
    ·subst e; omega
    ·exact h5 j (by omega) hj0
  ·rw [if_neg h0]
   rcases ih with ⟨h1, h2⟩ | ⟨o, h1, h2, h3, h4, h5, h6⟩
   ·rw [if_pos (.inl (by omega))]
    refine .inr ⟨k, rfl, by omega, by omega, rfl, fun j hj hj0 => ?_, fun j hj hj0 => ?_⟩
    ·by_cases e : j = k
     ·subst e; exact Int.le_refl _
     ·have := h2 j (by omega); omega
    ·have := h2 j (by omega); omega
   ·have ho := hc o (by omega)
    by_cases hlt : c k + row k < (bh c row k).1
    ·rw [if_pos (.inr hlt)]
     refine .inr ⟨k, rfl, by omega, by omega, rfl, fun j hj hj0 => ?_, fun j hj hj0 => ?_⟩
     ·by_cases e : j = k
      ·subst e; exact Int.le_refl _
      ·have := h5 j (by omega) hj0; simp only; omega
     ·have := h5 j (by omega) hj0; simp only; omega
    ·rw [if_neg (by intro h; omega)]
     refine .inr ⟨o, h1, by omega, h3, h4, fun j hj hj0 => ?_, h6⟩
     by_cases e : j = k
     ·subst e; omega
     ·exact h5 j (by omega) hj0
end
end
section
section
variable {n m : Nat} {par own : Nat → Int} {cost : Nat → Nat → Int}
def uF (n : Nat) (par : Nat → Int) : Nat → Nat → Int
 | 0, _ => 0
 | d + 1, i => aZ (fun c => if i < c ∧ par c = i then uF n par d c + 1000 else 0) n
def ub (n : Nat) (par : Nat → Int) (i : Nat) : Int := uF n par n i
theorem KL : ∀ {d e i : Nat}, n ≤ i + d → n ≤ i + e → i < n → uF n par d i = uF n par e i
 | 0, _, _, h, _, hi => by omega
 | _, 0, _, _, h, hi => by omega
 | d + 1, e + 1, i, h1, h2, hi => by
  show aZ _ _ = aZ _ _
  refine bQ fun c hc => ?_
  split
  ·rename_i hk
   rw [KL (d := d) (e := e) (by omega) (by omega) hc]
  ·rfl
theorem Ui {i : Nat} (hi : i < n) : ub n par i = aZ (fun c => if i < c ∧ par c = i then ub n par c + 1000 else 0) n := by
 unfold ub
 obtain ⟨d, rfl⟩ : ∃ d, n = d + 1 := ⟨n - 1, by omega⟩
 show aZ _ _ = _
 refine bQ fun c hc => ?_
 split
 ·rename_i hk
  rw [KL (d := d) (e := d + 1) (by omega) (by omega) hc]
 ·rfl
theorem NP (d : Nat) : ∀ i : Nat, 0 ≤ uF n par d i := by
 induction d with
 | zero => intro i; exact Int.le_refl _
 | succ d ih =>
  intro i
  exact pF fun c _ => by
   have := ih c
   split <;> omega
theorem xI (i : Nat) : 0 ≤ ub n par i := NP _ _
def Bl (n : Nat) (par : Nat → Int) (k : Nat) : Int := aZ (fun c => if k ≤ c ∧ par c < k then ub n par c + 1000 else 0) n
theorem Q7 (h : ∀ c, c < n → par c < c) {k : Nat} (hk : k < n) : Bl n par k = Bl n par (k + 1) + 1000 := by
 have h1 : Bl n par k = aZ (fun c => if k + 1 ≤ c ∧ par c < k then ub n par c + 1000 else 0) n + aZ (fun c => if c = k then ub n par k + 1000 else 0) n := by
  rw [← mE]; unfold Bl
  refine bQ fun c hc => ?_
  by_cases e : c = k
  ·subst e
   have := h c hc
   rw [if_pos ⟨Nat.le_refl _, this⟩, if_neg (by omega), if_pos rfl]; omega
  ·by_cases h2 : k ≤ c ∧ par c < k
   ·rw [if_pos h2, if_pos ⟨by omega, h2.2⟩, if_neg e]; omega
   ·rw [if_neg h2, if_neg (fun h3 => h2 ⟨by omega, h3.2⟩), if_neg e]; rfl
 have h2 : Bl n par (k + 1) = aZ (fun c => if k + 1 ≤ c ∧ par c < k then ub n par c + 1000 else 0) n + aZ (fun c => if k < c ∧ par c = k then ub n par c + 1000 else 0) n := by
  rw [← mE]; unfold Bl
  refine bQ fun c _ => ?_
  by_cases h3 : k + 1 ≤ c
  ·by_cases h4 : par c = k
   ·rw [if_pos ⟨h3, by omega⟩, if_neg (by omega), if_pos ⟨h3, h4⟩]; omega
   ·by_cases h5 : par c < k
    ·rw [if_pos ⟨h3, by omega⟩, if_pos ⟨h3, h5⟩, if_neg (fun h => h4 h.2)]; omega
    ·rw [if_neg (by omega), if_neg (fun h => h5 h.2), if_neg (fun h => h4 h.2)]; rfl
  ·rw [if_neg (fun h => h3 h.1), if_neg (fun h => h3 h.1), if_neg (fun h => h3 (by omega))]; rfl
 rw [rB, if_pos hk] at h1
 rw [← Ui hk] at h2
 omega
theorem NQ (h : ∀ c, c < n → par c < c) : ∀ {d k : Nat}, k + d = n → Bl n par k = 1000 * (d : Int)
 | 0, k, e => by
  have : Bl n par k = aZ (fun _ => 0) n := bQ fun c hc => by rw [if_neg (by omega)]
  rw [this, kL]; rfl
 | d + 1, k, e => by
  rw [Q7 h (by omega), NQ h (d := d) (k := k + 1) (by omega)]; omega
theorem KM {f : Nat → Int} : ∀ {n k : Nat}, (∀ c, c < n → 0 ≤ f c) → k < n → f k ≤ aZ f n
 | 0, _, _, h => absurd h (Nat.not_lt_zero _)
 | n + 1, k, h, hk => by
  rw [dK]
  by_cases e : k = n
  ·subst e; have := pF (f := f) (n := k) fun c hc => h c (by omega); omega
  ·have := KM (f := f) (n := n) (k := k) (fun c hc => h c (by omega)) (by omega)
   have := h n (by omega); omega
theorem ub_le (h : ∀ c, c < n → par c < c) {k : Nat} (hk : k < n) : ub n par k + 1000 ≤ 1000 * ((n - k : Nat) : Int) := by
 have h1 := NQ h (d := n - k) (k := k) (by omega)
 have h2 := KM (f := fun c => if k ≤ c ∧ par c < k then ub n par c + 1000 else 0) (n := n) (k := k) (fun c _ => by
  have := xI (n := n) (par := par) c
  show 0 ≤ (if k ≤ c ∧ par c < k then ub n par c + 1000 else 0)
  split <;> omega) hk
 rw [if_pos ⟨Nat.le_refl _, h k hk⟩] at h2
 unfold Bl at h1
 omega
theorem Bo (F : Xd n m par own cost) : ∀ {d i : Nat}, n ≤ i + d → i < n →
  (∀ s, s < m → -1 ≤ tab n m par own cost i s ∧ tab n m par own cost i s ≤ ub n par i) ∧ (∃ s, s < m ∧ 0 ≤ tab n m par own cost i s) ∧
  (own i = -1 → ∀ s, s < m → 0 ≤ tab n m par own cost i s) ∧ (0 ≤ own i → ∀ s, s < m → tab n m par own cost i s = if own i = s then 0 else -1)
 | 0, i, h, hi => by omega
 | d + 1, i, h, hi => by
  have Xe : ∀ s, s < m → ∀ c, c < n → i < c → 0 ≤ (bh (cost s) (tab n m par own cost c) m).1 ∧ (bh (cost s) (tab n m par own cost c) m).1 ≤ ub n par c + 1000 := by
   intro s hs c hc hic
   obtain ⟨h1, ⟨j, hj, hj0⟩, _⟩ := Bo F (d := d) (i := c) (by omega) hc
   rcases vC (c := cost s) (row := tab n m par own cost c) (A := ub n par c) (xI _) (k := m) (fun j hj => F.L8 s j hs hj) (fun j hj => (h1 j hj).2) with ⟨_, h3⟩ | ⟨o, _, ho, zJ, h4, h5, _⟩
   ·have := h3 j hj; omega
   ·have := h5 j hj hj0
    have := (h1 j hj).2
    have := F.L8 s j hs hj
    have := F.L8 s o hs ho
    constructor <;> omega
  have L9 : ∀ s, s < m → 0 ≤ aZ (fun c => if i < c ∧ par c = i then (bh (cost s) (tab n m par own cost c) m).1 else 0) n ∧ aZ (fun c => if i < c ∧ par c = i then (bh (cost s) (tab n m par own cost c) m).1 else 0) n ≤ ub n par i := by
   intro s hs
   constructor
   ·exact pF fun c hc => by
     split
     ·rename_i h2; exact (Xe s hs c hc h2.1).1
     ·exact Int.le_refl _
   ·rw [Ui hi]
    exact pX fun c hc => by
     split
     ·rename_i h2; exact (Xe s hs c hc h2.1).2
     ·exact Int.le_refl _
  have heq : ∀ s, tab n m par own cost i s = (if 0 ≤ own i ∧ own i ≠ s then -1 else 0) + aZ (fun c => if i < c ∧ par c = i then (bh (cost s) (tab n m par own cost c) m).1 else 0) n := fun s => FU hi s
  have hub := xI (n := n) (par := par) i
  have ho := F.own1 i hi
  refine ⟨fun s hs => ?_, ?_, fun h0 s hs => ?_, fun h0 s hs => ?_⟩
  ·rw [heq s]; have := L9 s hs; split <;> omega
  ·by_cases h0 : 0 ≤ own i
   ·refine ⟨(own i).toNat, by omega, ?_⟩
    rw [heq, if_neg (by omega)]; have := L9 (own i).toNat (by omega); omega
   ·refine ⟨0, F.m1, ?_⟩
    rw [heq, if_neg (by omega)]; have := L9 0 F.m1; omega
  ·rw [heq, if_neg (by omega)]; have := L9 s hs; omega
  ·have hz : aZ (fun c => if i < c ∧ par c = i then (bh (cost s) (tab n m par own cost c) m).1 else 0) n = 0 := by
    refine (bQ (g := fun _ => 0) fun c hc => ?_).trans (kL n)
    rw [if_neg]; intro h2; have := F.leaf i c hc h2.1 h2.2; omega
   rw [heq, hz]
   by_cases e : own i = s
   ·rw [if_neg (fun h => h.2 e), if_pos e]; rfl
   ·rw [if_pos ⟨h0, e⟩, if_neg e]; rfl
end
end
section
def eM (ns : List ByteArray) (i : Nat) : Int := b8 (fun j => decide ((i : Int) = gi (aj ns) j)) (aj ns).length
def jd (ns : List ByteArray) (st : List Int) (i : Nat) : Int := if 0 ≤ eM ns i then gi st (eM ns i).toNat else -1
def eX (cs : List (List Int)) (a b : Nat) : Int := gi (gl cs a) b
def gK (t : ay) (st : List Int) (cs : List (List Int)) (i s : Nat) : Int := tab t.ps.length cs.length (gi t.ps) (jd t.ns st) (eX cs) i s
def aP (t : ay) (st : List Int) (cs : List (List Int)) (i : Nat) : List Int := (List.range cs.length).map (gK t st cs i)
theorem fH (t : ay) (st : List Int) (cs : List (List Int)) (i : Nat) : (aP t st cs i).length = cs.length := by simp [aP]
theorem dh (t : ay) (st : List Int) (cs : List (List Int)) (i : Nat) {s : Nat} (hs : s < cs.length) : gi (aP t st cs i) s = gK t st cs i s := by
 simp [gi, aP, hs]
def iJ (t : ay) (st : List Int) (cs : List (List Int)) (s c : Nat) : Int := (bh (gi (gl cs s)) (gi (aP t st cs c)) (aP t st cs c).length).1
theorem VI (t : ay) (st : List Int) (cs : List (List Int)) (s c : Nat) : iJ t st cs s c = (bh (eX cs s) (gK t st cs c) cs.length).1 := by
 unfold iJ; rw [fH]
 have h : bh (gi (gl cs s)) (gi (aP t st cs c)) cs.length = bh (eX cs s) (gK t st cs c) cs.length := l8 (fun _ _ => rfl) fun j hj => dh t st cs c hj
 rw [h]
def eC (t : ay) (st : List Int) (i s : Nat) : Int := if 0 ≤ jd t.ns st i ∧ jd t.ns st i ≠ s then -1 else 0
theorem KO (t : ay) (st : List Int) (cs : List (List Int)) {i : Nat} (hi : i < t.ps.length) (s : Nat) : gK t st cs i s = eC t st i s + ((aS t.ps i).map (iJ t st cs s)).sum := by
 unfold gK; rw [FU hi]; unfold vB aS
 rw [xG]
 show eC t st i s + _ = _
 congr 1
 exact bQ fun c _ => by
  split
  ·exact (VI t st cs s c).symm
  ·rfl
end
section
theorem J2 {t : ay} {st : List Int} {cs : List (List Int)} (h : gJ t st cs = 0) : az t = 0 ∧ nu cs = 0 ∧ mD st (aj t.ns).length (-1) cs.length = 0 := by
 unfold gJ at h
 by_cases h1 : az t = 0
 ·rw [if_neg (fun e => e h1)] at h
  by_cases h2 : nu cs = 0
  ·rw [if_neg (fun e => e h2)] at h; exact ⟨h1, h2, h⟩
  ·rw [if_pos h2] at h; exact absurd h h2
 ·rw [if_pos h1] at h; cases h
theorem aD {t : ay} (h : az t = 0) : 0 < t.ps.length ∧ t.ps.length ≤ 64 ∧ t.ns.length = t.ps.length ∧ fZ t.ps = true ∧ ∀ i, i < t.ps.length → iu t.ps t.ns i = 0 := by
 unfold az at h
 split at h
 ·cases h
 ·split at h
  ·cases h
  ·split at h
   ·cases h
   ·split at h
    ·exact ⟨by omega, by omega, by omega, ‹_›, j9 h⟩
    ·cases h
theorem pG {cs : List (List Int)} (h : nu cs = 0) : 0 < cs.length ∧ cs.length ≤ 16 ∧ (∀ a, a < cs.length → (gl cs a).length = cs.length) ∧ (∀ a k, 0 ≤ gi (gl cs a) k ∧ gi (gl cs a) k ≤ 1000) ∧ ∀ a, a < cs.length → gi (gl cs a) a = 0 := by
 unfold nu at h
 split at h
 ·cases h
 ·split at h
  ·cases h
  ·split at h
   ·cases h
   ·rename_i hl
    split at h
    ·cases h
    ·rename_i hm
     have hl2 : NN cs = false := by simpa using hl
     have hm2 : KJ cs cs.length = false := by simpa using hm
     have hlen : ∀ a, a < cs.length → (gl cs a).length = cs.length := fun a ha => by have := any_false hl2 ha; simpa using this
     have jY : ∀ a b, a < cs.length → b < (gl cs a).length → L5 a b (gi (gl cs a) b) = false := fun a b ha hb => any_false (any_false hm2 ha) hb
     refine ⟨by omega, by omega, hlen, fun a k => ?_, fun a ha => ?_⟩
     ·by_cases ha : a < cs.length
      ·by_cases hk : k < (gl cs a).length
       ·have := jY a k ha hk
        simp [L5] at this; omega
       ·have : gi (gl cs a) k = 0 := by simp [gi, List.getElem?_eq_none (by omega : (gl cs a).length ≤ k)]
        omega
      ·have : gl cs a = [] := by simp [gl, List.getElem?_eq_none (by omega : cs.length ≤ a)]
       rw [this]; simp [gi]
     ·have := jY a a ha (by rw [hlen a ha]; exact ha)
      simp [L5] at this; exact this.2
theorem tQ {ns : List ByteArray} {x : Int} : x ∈ aj ns ↔ ∃ i : Nat, x = i ∧ i < ns.length ∧ (gs ns i).size ≠ 0 := by
 unfold aj
 rw [List.mem_map]
 constructor
 ·rintro ⟨i, hi, rfl⟩
  rw [List.mem_filter, List.mem_range] at hi
  exact ⟨i, rfl, hi.1, by simpa using hi.2⟩
 ·rintro ⟨i, rfl, h1, h2⟩
  exact ⟨i, by rw [List.mem_filter, List.mem_range]; exact ⟨h1, by simpa using h2⟩, rfl⟩
theorem tR (ns : List ByteArray) : (aj ns).length ≤ ns.length := by
 unfold aj; rw [List.length_map]; exact Nat.le_trans (List.length_filter_le _ _) (by simp)
theorem uh {l : List Int} {k : Nat} (h : k < l.length) : gi l k ∈ l := by simp [gi, h]
theorem sW {ns : List ByteArray} {i : Nat} (h : 0 ≤ eM ns i) : (eM ns i).toNat < (aj ns).length ∧ gi (aj ns) (eM ns i).toNat = i := by
 unfold eM at h ⊢
 generalize hx : b8 (fun j => decide ((i : Int) = gi (aj ns) j)) (aj ns).length = x at *
 obtain ⟨k, rfl⟩ := Int.eq_ofNat_of_zero_le h
 have := rA hx
 rw [Int.toNat_natCast]
 exact ⟨this.1, by have := this.2.1; simpa using (of_decide_eq_true this).symm⟩
structure Valid (t : ay) (st : List Int) (cs : List (List Int)) : Prop where
 tree : az t = 0
 NR : nu cs = 0
 len : st.length = (aj t.ns).length
 good : iy st (-1) cs.length = false
theorem FV {t : ay} {st : List Int} {cs : List (List Int)} (h : gJ t st cs = 0) : Valid t st cs := by
 obtain ⟨h1, h2, h3⟩ := J2 h
 unfold mD at h3
 split at h3
 ·cases h3
 ·split at h3
  ·cases h3
  ·exact ⟨h1, h2, by omega, by simpa using ‹¬ iy st (-1) cs.length = true›⟩
theorem Valid.par {t : ay} {st : List Int} {cs : List (List Int)} (h : Valid t st cs) : gJ t st cs = 0 := by
 unfold gJ mD; rw [if_neg (fun e => e h.tree), if_neg (fun e => e h.NR), if_neg (fun e => e h.len), h.good]; rfl
theorem kM {ps : List Int} (h : fZ ps = true) {c : Nat} (hc : c < ps.length) : gi ps c < c ∧ (0 < c → 0 ≤ gi ps c) ∧ (c = 0 → gi ps c = -1) := by
 have := CN h hc
 unfold jb at this
 split at this
 ·simp at this; omega
 ·simp at this; omega
theorem pH {t : ay} (h : az t = 0) {i c : Nat} (hc : c < t.ps.length) (hi : i < c) (hp : gi t.ps c = i) : (gs t.ns i).size = 0 := by
 obtain ⟨_, _, _, hok, hn⟩ := aD h
 have hin : isIn t.ps i = true := List.any_eq_true.2 ⟨c, List.mem_range.2 hc, by simp [hp]; omega⟩
 have := hn i (by omega)
 unfold iu at this
 rw [if_pos hin] at this
 by_cases e : (gs t.ns i).size = 0
 ·exact e
 ·rw [if_neg e] at this; cases this
theorem vD {t : ay} (h : az t = 0) {i : Nat} (hi : i < t.ps.length) (hin : isIn t.ps i = false) : aY (gs t.ns i).data.toList = true ∧ dm t.ns i = false := by
 obtain ⟨_, _, _, hok, hn⟩ := aD h
 have := hn i hi
 unfold iu at this
 rw [hin] at this
 cases h1 : aY (gs t.ns i).data.toList
 ·rw [h1] at this; cases this
 ·cases h2 : dm t.ns i
  ·exact ⟨rfl, rfl⟩
  ·rw [h1, h2] at this; cases this
theorem Valid.fine {t : ay} {st : List Int} {cs : List (List Int)} (h : Valid t st cs) : Xd t.ps.length cs.length (gi t.ps) (jd t.ns st) (eX cs) := by
 obtain ⟨h1, h2, h3, hok, hn⟩ := aD h.tree
 obtain ⟨m1, m2, m3, m4, m5⟩ := pG h.NR
 refine ⟨m1, fun c h0 hc => (kM hok hc).2.1 h0, fun c hc => (kM hok hc).1, fun i _ => ?_, fun a b _ _ => m4 a b, fun i c hc hic hp => ?_⟩
 ·unfold jd
  split
  ·rename_i h0
   have hl := sW h0
   have hb := any_false h.good (k := (eM t.ns i).toNat) (by rw [h.len]; exact hl.1)
   simp at hb; omega
  ·omega
 ·unfold jd
  rw [if_neg]; intro h0
  have hl := sW h0
  have hm : (i : Int) ∈ aj t.ns := by rw [← hl.2]; exact uh hl.1
  obtain ⟨j, e, _, hne⟩ := tQ.1 hm
  obtain rfl : i = j := by omega
  exact hne (pH h.tree hc hic hp)
theorem Valid.tb {t : ay} {st : List Int} {cs : List (List Int)} (h : Valid t st cs) (j s : Nat) (hj : j < t.ps.length) : -1 ≤ gi (aP t st cs j) s ∧ gi (aP t st cs j) s ≤ 100000 := by
 by_cases hs : s < cs.length
 ·rw [dh t st cs j hs]
  have h1 := (Bo h.fine (d := t.ps.length) (i := j) (by omega) hj).1 s hs
  have h2 := ub_le (par := gi t.ps) h.fine.Uh hj
  obtain ⟨_, h3, _⟩ := aD h.tree
  unfold gK
  constructor <;> omega
 ·have : gi (aP t st cs j) s = 0 := by simp [gi, aP, hs]
  omega
def bZ (t : ay) (st : List Int) (cs : List (List Int)) : Int := if gJ t st cs = 0 then (bh (fun _ => 0) (gi (aP t st cs 0)) cs.length).1 else 0
end
section
section
variable {t : ay} {st : List Int} {cs : List (List Int)}
theorem qY (hv : Valid t st cs) {c : Nat → Int} (hc : ∀ j, j < cs.length → 0 ≤ c j ∧ c j ≤ 1000) {k : Nat} (hk : k < t.ps.length) :
  ∃ o : Nat, (bh c (gi (aP t st cs k)) cs.length).2 = o ∧ o < cs.length ∧ 0 ≤ gi (aP t st cs k) o ∧ (bh c (gi (aP t st cs k)) cs.length).1 = c o + gi (aP t st cs k) o ∧
   (∀ j, j < cs.length → 0 ≤ gi (aP t st cs k) j → (bh c (gi (aP t st cs k)) cs.length).1 ≤ c j + gi (aP t st cs k) j) ∧
   (∀ j, j < o → 0 ≤ gi (aP t st cs k) j → (bh c (gi (aP t st cs k)) cs.length).1 < c j + gi (aP t st cs k) j) := by
 obtain ⟨_, ⟨s, hs, hs0⟩, _⟩ := Bo hv.fine (d := t.ps.length) (i := k) (by omega) hk
 have hs1 : 0 ≤ gi (aP t st cs k) s := by rw [dh _ _ _ _ hs]; exact hs0
 rcases vC (c := c) (row := gi (aP t st cs k)) (A := 100000) (by omega) (k := cs.length) hc (fun j _ => (hv.tb k j hk).2) with ⟨_, h⟩ | h
 ·have := h s hs; omega
 ·exact h
end
end
section
end
section
end
section
theorem oB {ns : List ByteArray} {i : Nat} (hi : i < (aj ns).length) : ∃ k : Nat, gi (aj ns) i = k ∧ k < ns.length ∧ (gs ns k).size ≠ 0 := by
 obtain ⟨k, e, h1, h2⟩ := tQ.1 (uh hi)
 exact ⟨k, e, h1, h2⟩
section
variable {t : ay} {st : List Int} {cs : List (List Int)}
theorem NT (h : Valid t st cs) : bZ t st cs = (bh (fun _ => 0) (gi (aP t st cs 0)) cs.length).1 := by unfold bZ; rw [if_pos h.par]
theorem Ar (h : Valid t st cs) : ∃ o : Nat, (bh (fun _ => 0) (gi (aP t st cs 0)) cs.length).2 = o ∧ o < cs.length ∧ 0 ≤ gK t st cs 0 o ∧ bZ t st cs = gK t st cs 0 o ∧
  ∀ j, j < cs.length → 0 ≤ gK t st cs 0 j → bZ t st cs ≤ gK t st cs 0 j := by
 have ig := (aD h.tree).1
 obtain ⟨o, h1, h2, h3, h4, h5, _⟩ := qY h (c := fun _ => 0) (fun _ _ => by omega) ig
 rw [NT h]
 rw [dh _ _ _ _ h2] at h3 h4
 refine ⟨o, h1, h2, h3, by rw [h4]; omega, fun j hj hj0 => ?_⟩
 have := h5 j hj (by rw [dh _ _ _ _ hj]; exact hj0)
 rw [dh _ _ _ _ hj] at this
 omega
theorem ny (h : Valid t st cs) : 0 ≤ bZ t st cs := by obtain ⟨o, _, _, h3, h4, _⟩ := Ar h; omega
theorem DK (h : Valid t st cs) : bZ t st cs ≤ 100000 := by
 obtain ⟨o, _, h2, _, h4, _⟩ := Ar h
 have := (h.tb 0 o (aD h.tree).1).2
 rw [dh _ _ _ _ h2] at this; omega
end
end
section
end
section
end
end Go.Proofs.YthgabkgmkolobaaGreat
