/- What the functions of layers 1 and 31 compute, as plain functions on lists. Plain: the .. -/
import Derived.Lib.Hide
set_option maxRecDepth 100000

namespace Go.Proofs.YteegefnjnikngaaGreat
open Go.RowKit in
theorem aa {p : Prop} (h : p) : Hid p := h
theorem aq {α : Type} {i : Nat} {a : α} {l : List α} : l.toArray.setIfInBounds i a = (l.set i a).toArray := List.setIfInBounds_toArray ..
theorem ah {α : Type} {a b : α} {l : List α} : (a :: l).set 0 b = b :: l := List.set_cons_zero ..
theorem au {α : Type} {n : Nat} {a b : α} {l : List α} : (a :: l).set (n + 1) b = a :: l.set n b := List.set_cons_succ ..
section
def gi (l : List Int) (k : Nat) : Int := l.getD k 0
def gs (l : List ByteArray) (k : Nat) : ByteArray := l.getD k ByteArray.empty
def gb (l : List Bool) (k : Nat) : Bool := l.getD k false
def gl (l : List (List Int)) (k : Nat) : List Int := l.getD k []
structure ax where
 ps : List Int
 ns : List ByteArray

theorem VQ (bs : ByteArray) : ∀ (n i : Nat) (r : List UInt8), bs.size - i = n → ByteArray.toList.loop bs i r = r.reverse ++ bs.data.toList.drop i := by
 intro n
 induction n with
 | zero =>
  intro i r h
  unfold ByteArray.toList.loop
  rw [if_neg (by omega), List.drop_of_length_le (by simp; omega)]; simp
 | succ n ih =>
  intro i r h
  unfold ByteArray.toList.loop
  have hi : i < bs.size := by omega
  rw [if_pos hi, ih (i + 1) _ (by omega), List.reverse_cons, List.append_assoc]
  congr 1
  rw [List.drop_eq_getElem_cons (i := i) (by simpa using hi), List.singleton_append]
  congr 1
  simp [ByteArray.get!, getElem!_pos, hi]
theorem toList_data (s : ByteArray) : s.toList = s.data.toList := by
 unfold ByteArray.toList; rw [VQ s _ 0 [] rfl]; simp
theorem toList_nil (s : ByteArray) : s.toList = [] ↔ s.size = 0 := by
 rw [toList_data, ← List.length_eq_zero_iff]; simp
theorem size_data (s : ByteArray) : s.data.toList.length = s.size := by simp
theorem fc {a b : ByteArray} (h : a.data.toList = b.data.toList) : a = b := by
 cases a; cases b; simpa using h
def isLet (c : Nat) : Bool := (97 ≤ c && c ≤ 122) || (65 ≤ c && c ≤ 90)
def vU (c : Nat) : Bool := c == 46 || c == 44 || c == 59 || c == 58 || c == 33 || c == 63 || c == 40 || c == 41 || c == 45
def dg (c : Nat) : Int := if isLet c then 1 else if c = 94 ∨ c = 126 ∨ c = 37 then 2 else if 48 ≤ c ∧ c ≤ 57 then 3 else if c = 39 then 4 else if c = 32 then 6 else if vU c then 5 else 0
def qW (c : UInt8) : Bool := isLet c.toNat || (48 ≤ c.toNat && c.toNat ≤ 57)
def jT (l : List UInt8) : Nat := l.countP qW
def eo (l : List UInt8) : Bool := 1 ≤ l.length && l.length ≤ 16 && l.all qW
def aZ (l : List UInt8) : Bool := if l.getLast? = some 42 then eo l.dropLast && l.length ≤ 16 else eo l

def jm (i : Nat) (p : Int) : Bool := if i = 0 then p == -1 else decide (0 ≤ p) && decide (p < i)
def iJ (ps : List Int) : Bool := (List.range ps.length).all fun i => jm i (gi ps i)
def D7 (ps : List Int) (n i : Nat) : Bool := (List.range n).any fun j => decide (0 < j) && gi ps j == (i : Int)
def isIn (ps : List Int) (i : Nat) : Bool := D7 ps ps.length i
def dI (ns : List ByteArray) (i : Nat) : Bool := (List.range i).any fun j => decide (gs ns j = gs ns i)
def ja (ps : List Int) (ns : List ByteArray) (i : Nat) : Int :=
 if isIn ps i then (if (gs ns i).size = 0 then 0 else 14) else if aZ (gs ns i).data.toList then (if dI ns i then 7 else 0) else 14
def firstNZ (f : Nat → Int) : Nat → Int
 | 0 => 0
 | n + 1 => if firstNZ f n = 0 then f n else firstNZ f n
def az (t : ax) : Int :=
 if t.ps.length = 0 then 5 else if 64 < t.ps.length then 4 else if t.ns.length ≠ t.ps.length then 9
 else if iJ t.ps then firstNZ (ja t.ps t.ns) t.ps.length else 2
def ay (ns : List ByteArray) : List Int := ((List.range ns.length).filter fun i => (gs ns i).size ≠ 0).map fun (i : Nat) => (i : Int)

theorem eN {f : Nat → Int} : ∀ {n : Nat}, (∀ j, j < n → f j = 0) → firstNZ f n = 0
 | 0, _ => rfl
 | n + 1, h => by
  unfold firstNZ
  rw [if_pos (eN fun j hj => h j (by omega))]; exact h n (by omega)
theorem fZ {f : Nat → Int} {k : Nat} : ∀ {n : Nat}, k < n → (∀ j, j < k → f j = 0) → f k ≠ 0 → firstNZ f n = f k
 | 0, h, _, _ => absurd h (Nat.not_lt_zero _)
 | n + 1, hk, h, hne => by
  unfold firstNZ
  by_cases e : k = n
  ·subst e; rw [if_pos (eN h)]
  ·rw [fZ (by omega) h hne, if_neg hne]
theorem kK {f : Nat → Int} : ∀ {n : Nat}, firstNZ f n = 0 → ∀ j, j < n → f j = 0
 | 0, _, j, hj => absurd hj (Nat.not_lt_zero _)
 | n + 1, h, j, hj => by
  unfold firstNZ at h
  split at h
  ·rename_i h0
   by_cases e : j = n
   ·subst e; exact h
   ·exact kK h0 j (by omega)
  ·rename_i h0; exact absurd h h0
theorem Ga (ps : List Int) (n i : Nat) : D7 ps (n + 1) i = (D7 ps n i || (decide (0 < n) && gi ps n == (i : Int))) := by
 simp [D7, List.range_succ, List.any_append]
theorem Gc {ps : List Int} {k : Nat} (hk : k < ps.length) (h : jm k (gi ps k) = false) : iJ ps = false := by
 rw [Bool.eq_false_iff]; intro e
 have := List.all_eq_true.1 e k (List.mem_range.2 hk)
 simp [h] at this
theorem AG {ps : List Int} (h : ∀ j, j < ps.length → jm j (gi ps j) = true) : iJ ps = true :=
 List.all_eq_true.2 fun j hj => h j (List.mem_range.1 hj)
theorem uK {ps : List Int} (h : iJ ps = true) {j : Nat} (hj : j < ps.length) : jm j (gi ps j) = true :=
 List.all_eq_true.1 h j (List.mem_range.2 hj)
def bW (p : Nat → Bool) : Nat → Int
 | 0 => -1
 | n + 1 => if bW p n = -1 then (if p n then (n : Int) else -1) else bW p n
theorem kX (p : Nat → Bool) (n : Nat) : bW p (n + 1) = if bW p n = -1 then (if p n then (n : Int) else -1) else bW p n := rfl
theorem gu {p : Nat → Bool} : ∀ {n : Nat}, (∀ j, j < n → p j = false) → bW p n = -1
 | 0, _ => rfl
 | n + 1, h => by
  rw [kX, if_pos (gu fun j hj => h j (by omega)), h n (by omega)]; rfl
theorem iO {p : Nat → Bool} {k : Nat} : ∀ {n : Nat}, k < n → (∀ j, j < k → p j = false) → p k = true → bW p n = k
 | 0, h, _, _ => absurd h (Nat.not_lt_zero _)
 | n + 1, hk, h, hp => by
  rw [kX]
  by_cases e : k = n
  ·subst e; rw [if_pos (gu h), hp]; rfl
  ·rw [iO (by omega) h hp, if_neg (by omega)]
theorem BF (p : Nat → Bool) (n : Nat) : -1 ≤ bW p n ∧ bW p n < n ∧ (bW p n = -1 ∨ 0 ≤ bW p n) := by
 induction n with
 | zero => simp [bW]
 | succ n ih => rw [kX]; split <;> (try split) <;> omega
theorem mA (p : Nat → Bool) (n : Nat) : decide (0 ≤ bW p n) = (List.range n).any p := by
 induction n with
 | zero => simp [bW]
 | succ n ih =>
  have hl := BF p n
  rw [List.range_succ, List.any_append, ← ih, kX]
  by_cases h : bW p n = -1
  ·rw [if_pos h, h]; cases hp : p n <;> simp [hp]
  ·rw [if_neg h]; have : 0 ≤ bW p n := by omega
   simp [this]
theorem r8 {p : Nat → Bool} {n k : Nat} (h : bW p n = k) : k < n ∧ p k = true ∧ ∀ j, j < k → p j = false := by
 induction n with
 | zero => simp [bW] at h
 | succ n ih =>
  rw [kX] at h
  by_cases h1 : bW p n = -1
  ·rw [if_pos h1] at h
   by_cases hp : p n = true
   ·rw [if_pos hp] at h
    obtain rfl : n = k := by omega
    refine ⟨by omega, hp, fun j hj => ?_⟩
    cases hq : p j with
    | false => rfl
    | true =>
     exfalso
     have := mA p n
     rw [h1] at this
     have h2 : (List.range n).any p = true := List.any_eq_true.2 ⟨j, List.mem_range.2 hj, hq⟩
     rw [h2] at this; simp at this
   ·rw [if_neg hp] at h; omega
  ·rw [if_neg h1] at h
   have := ih h
   exact ⟨by omega, this.2⟩
end
section
def oU (ns : List ByteArray) (k : Nat) : List Int := ((List.range k).filter fun i => (gs ns i).size ≠ 0).map fun (i : Nat) => (i : Int)
theorem Gd (ns : List ByteArray) (k : Nat) : oU ns (k + 1) = oU ns k ++ (if (gs ns k).size = 0 then [] else [(k : Int)]) := by
 unfold oU
 rw [List.range_succ, List.filter_append, List.map_append]
 congr 1
 by_cases h : (gs ns k).size = 0
 ·have h2 : decide ((gs ns k).size ≠ 0) = false := by rw [decide_eq_false_iff_not]; exact fun e => e h
  rw [if_pos h]; simp only [List.filter_cons, h2, List.filter_nil]; rfl
 ·have h2 : decide ((gs ns k).size ≠ 0) = true := by rw [decide_eq_true_eq]; exact h
  rw [if_neg h]; simp only [List.filter_cons, h2, List.filter_nil]; rfl
theorem Ko (ns : List ByteArray) (k : Nat) : (oU ns k).length ≤ k := by
 unfold oU; rw [List.length_map]; exact Nat.le_trans (List.length_filter_le _ _) (by simp)
end
section
def cG (ps : List Int) (n k : Nat) : List Nat := (List.range k).filter fun i => decide (n < i) && gi ps i == (n : Int)
def aQ (ps : List Int) (n : Nat) : List Nat := cG ps n ps.length
def eO (l : List Nat) : List Int := l.map fun (i : Nat) => (i : Int)
theorem jU (ps : List Int) (n k : Nat) : cG ps n (k + 1) = cG ps n k ++ (if n < k ∧ gi ps k = n then [k] else []) := by
 unfold cG
 rw [List.range_succ, List.filter_append]
 congr 1
 by_cases h : n < k ∧ gi ps k = n
 ·rw [if_pos h]; simp [h.1, h.2]
 ·rw [if_neg h]
  have : (decide (n < k) && gi ps k == (n : Int)) = false := by
   rw [Bool.eq_false_iff]; intro e; apply h; simpa using e
  simp [this]
theorem zM (ps : List Int) (n : Nat) : cG ps n (n + 1) = [] := by
 unfold cG
 rw [List.filter_eq_nil_iff]; intro a ha; have := List.mem_range.1 ha; simp; omega
theorem qu (ps : List Int) (n k : Nat) : (cG ps n k).length ≤ k := by
 unfold cG; exact Nat.le_trans (List.length_filter_le _ _) (by simp)
theorem bf {ps : List Int} {n i : Nat} : i ∈ aQ ps n ↔ i < ps.length ∧ n < i ∧ gi ps i = n := by
 unfold aQ cG; rw [List.mem_filter, List.mem_range]; simp
theorem FQ (a b : List Nat) : eO (a ++ b) = eO a ++ eO b := List.map_append
theorem kY {ps : List Int} (h : iJ ps = true) (n : Nat) : aQ ps n ≠ [] ↔ isIn ps n = true := by
 constructor
 ·intro hne
  obtain ⟨i, hi⟩ := List.exists_mem_of_ne_nil _ hne
  obtain ⟨h1, h2, h3⟩ := bf.1 hi
  exact List.any_eq_true.2 ⟨i, List.mem_range.2 h1, by simp [h3]; omega⟩
 ·intro hin
  obtain ⟨i, hi, h2⟩ := List.any_eq_true.1 hin
  have hi := List.mem_range.1 hi
  simp at h2
  have := uK h hi
  unfold jm at this
  rw [if_neg (by omega)] at this
  simp at this
  exact List.ne_nil_of_mem (bf.2 ⟨hi, by omega, h2.2⟩)
end
section
def iP (st : List Int) (least most : Int) : Bool := (List.range st.length).any fun k => decide (gi st k < least) || decide (most ≤ gi st k)
def mN (st : List Int) (n : Nat) (least most : Int) : Int := if st.length ≠ n then 9 else if iP st least most then 2 else 0
def Mt (a b : Nat) (c : Int) : Bool := decide (c < 0) || decide (1000 < c) || (decide (a = b) && decide (c ≠ 0))
def Xp (a : Nat) (row : List Int) (k : Nat) : Bool := (List.range k).any fun b => Mt a b (gi row b)
def KX (cs : List (List Int)) (k : Nat) : Bool := (List.range k).any fun a => Xp a (gl cs a) (gl cs a).length
def N8 (cs : List (List Int)) : Bool := (List.range cs.length).any fun a => decide ((gl cs a).length ≠ cs.length)
def nS (cs : List (List Int)) : Int := if cs.length = 0 then 5 else if 16 < cs.length then 4 else if N8 cs then 9 else if KX cs cs.length then 2 else 0
theorem any_none {p : Nat → Bool} {n : Nat} (h : ∀ j, j < n → p j = false) : (List.range n).any p = false := by
 rw [Bool.eq_false_iff]; intro e
 obtain ⟨j, hj, hp⟩ := List.any_eq_true.1 e
 rw [h j (List.mem_range.1 hj)] at hp; cases hp
theorem uL {p : Nat → Bool} {n k : Nat} (hk : k < n) (hp : p k = true) : (List.range n).any p = true := List.any_eq_true.2 ⟨k, List.mem_range.2 hk, hp⟩
theorem any_false {p : Nat → Bool} {n : Nat} (h : (List.range n).any p = false) {k : Nat} (hk : k < n) : p k = false := by
 cases e : p k with
 | false => rfl
 | true => rw [uL hk e] at h; cases h
def ig (t : ax) (st : List Int) (cs : List (List Int)) : Int :=
 if az t ≠ 0 then 1 else if nS cs ≠ 0 then nS cs else mN st (ay t.ns).length (-1) cs.length
end
section
def bG (c row : Nat → Int) : Nat → Int × Int
 | 0 => (-1, 0)
 | k + 1 => if row k < 0 then bG c row k else if (bG c row k).1 < 0 ∨ c k + row k < (bG c row k).1 then (c k + row k, (k : Int)) else bG c row k
theorem lI (c row : Nat → Int) (k : Nat) : bG c row (k + 1) = if row k < 0 then bG c row k else if (bG c row k).1 < 0 ∨ c k + row k < (bG c row k).1 then (c k + row k, (k : Int)) else bG c row k := rfl
theorem Ge {c row : Nat → Int} {A : Int} (hA : 0 ≤ A) (hc : ∀ k, 0 ≤ c k ∧ c k ≤ 1000) (hr : ∀ k, row k ≤ A) (k : Nat) : -1 ≤ (bG c row k).1 ∧ (bG c row k).1 ≤ A + 1000 := by
 induction k with
 | zero => simp [bG]; omega
 | succ k ih =>
  rw [lI]
  have := hc k; have := hr k
  split
  ·exact ih
  ·split
   ·simp; omega
   ·exact ih
end
section
def b7 (f : Nat → Int) : Nat → Int
 | 0 => 0
 | n + 1 => b7 f n + f n
theorem fK (f : Nat → Int) (n : Nat) : b7 f (n + 1) = b7 f n + f n := rfl
theorem gh {f g : Nat → Int} : ∀ {n : Nat}, (∀ c, c < n → f c = g c) → b7 f n = b7 g n
 | 0, _ => rfl
 | n + 1, h => by rw [fK, fK, gh fun c hc => h c (by omega), h n (by omega)]
theorem AH (f g : Nat → Int) : ∀ n : Nat, b7 (fun c => f c + g c) n = b7 f n + b7 g n
 | 0 => rfl
 | n + 1 => by rw [fK, fK, fK, AH f g n]; omega
theorem tK {f g : Nat → Int} : ∀ {n : Nat}, (∀ c, c < n → f c ≤ g c) → b7 f n ≤ b7 g n
 | 0, _ => Int.le_refl _
 | n + 1, h => by
  rw [fK, fK]
  have := tK (f := f) (g := g) (n := n) fun c hc => h c (by omega)
  have := h n (by omega); omega
theorem tL : ∀ n : Nat, b7 (fun _ => 0) n = 0
 | 0 => rfl
 | n + 1 => by rw [fK, tL n]; rfl
theorem uu {f : Nat → Int} {n : Nat} (h : ∀ c, c < n → 0 ≤ f c) : 0 ≤ b7 f n := by
 have := tK (f := fun _ => 0) (g := f) (n := n) h
 rw [tL] at this; exact this
theorem Gf (k : Nat) (x : Int) : ∀ n : Nat, b7 (fun c => if c = k then x else 0) n = if k < n then x else 0
 | 0 => rfl
 | n + 1 => by
  rw [fK, Gf k x n]
  by_cases h : n = k
  ·subst h; simp
  ·by_cases h2 : k < n
   ·simp [h, h2]; omega
   ·simp [h, h2]; omega
theorem D8 (ps : List Int) (i : Nat) (g : Nat → Int) : ∀ n : Nat, ((cG ps i n).map g).sum = b7 (fun c => if i < c ∧ gi ps c = i then g c else 0) n
 | 0 => rfl
 | n + 1 => by
  rw [jU, List.map_append, List.sum_append, D8 ps i g n, fK]
  split <;> simp
def xW (n m : Nat) (par own : Nat → Int) (cost : Nat → Nat → Int) (look : Nat → Nat → Int) (i s : Nat) : Int :=
 (if 0 ≤ own i ∧ own i ≠ s then -1 else 0) + b7 (fun c => if i < c ∧ par c = i then (bG (cost s) (look c) m).1 else 0) n
def Mu (n m : Nat) (par own : Nat → Int) (cost : Nat → Nat → Int) : Nat → Nat → Nat → Int
 | 0 => fun _ _ => 0
 | d + 1 => xW n m par own cost (Mu n m par own cost d)
def tab (n m : Nat) (par own : Nat → Int) (cost : Nat → Nat → Int) (i s : Nat) : Int := Mu n m par own cost n i s
theorem qa {c c' r r' : Nat → Int} : ∀ {k : Nat}, (∀ j, j < k → c j = c' j) → (∀ j, j < k → r j = r' j) → bG c r k = bG c' r' k
 | 0, _, _ => rfl
 | k + 1, h1, h2 => by
  rw [lI, lI, qa (fun j hj => h1 j (by omega)) (fun j hj => h2 j (by omega)), h1 k (by omega), h2 k (by omega)]
section
variable {n m : Nat} {par own : Nat → Int} {cost : Nat → Nat → Int}
theorem D9 : ∀ {d e i : Nat}, n ≤ i + d → n ≤ i + e → i < n → ∀ s, Mu n m par own cost d i s = Mu n m par own cost e i s
 | 0, _, _, h, _, hi, _ => by omega
 | _, 0, _, _, h, hi, _ => by omega
 | d + 1, e + 1, i, h1, h2, hi, s => by
  show xW _ _ _ _ _ _ _ _ = xW _ _ _ _ _ _ _ _
  unfold xW
  congr 1
  refine gh fun c hc => ?_
  split
  ·rename_i hk
   rw [qa (fun _ _ => rfl) fun j _ => D9 (d := d) (e := e) (by omega) (by omega) hc j]
  ·rfl
theorem N9 {i : Nat} (hi : i < n) (s : Nat) : tab n m par own cost i s = xW n m par own cost (tab n m par own cost) i s := by
 unfold tab
 obtain ⟨d, rfl⟩ : ∃ d, n = d + 1 := ⟨n - 1, by omega⟩
 show xW _ _ _ _ _ _ _ _ = _
 unfold xW
 congr 1
 refine gh fun c hc => ?_
 split
 ·rename_i hk
  rw [qa (fun _ _ => rfl) fun j _ => D9 (d := d) (e := d + 1) (by omega) (by omega) hc j]
 ·rfl
structure Xq (n m : Nat) (par own : Nat → Int) (cost : Nat → Nat → Int) : Prop where
 m1 : 0 < m
 par0 : ∀ c, 0 < c → c < n → 0 ≤ par c
 parlt : ∀ c, c < n → par c < c
 own1 : ∀ i, i < n → -1 ≤ own i ∧ own i < m
 Mv : ∀ a b, a < m → b < m → 0 ≤ cost a b ∧ cost a b ≤ 1000
 leaf : ∀ i c, c < n → i < c → par c = i → own i = -1
theorem vV {c row : Nat → Int} {A : Int} (hA : 0 ≤ A) : ∀ {k : Nat}, (∀ j, j < k → 0 ≤ c j ∧ c j ≤ 1000) → (∀ j, j < k → row j ≤ A) →
  ((bG c row k).1 = -1 ∧ (∀ j, j < k → row j < 0)) ∨
  (∃ o : Nat, (bG c row k).2 = o ∧ o < k ∧ 0 ≤ row o ∧ (bG c row k).1 = c o + row o ∧ (∀ j, j < k → 0 ≤ row j → (bG c row k).1 ≤ c j + row j) ∧ (∀ j, j < o → 0 ≤ row j → (bG c row k).1 < c j + row j))
 | 0, _, _ => .inl ⟨rfl, fun j hj => absurd hj (Nat.not_lt_zero _)⟩
 | k + 1, hc, hr => by
  have ih := vV (c := c) (row := row) hA (k := k) (fun j hj => hc j (by omega)) fun j hj => hr j (by omega)
  have nh := hc k (by omega)
  rw [lI]
  by_cases h0 : row k < 0
  ·rw [if_pos h0]
   rcases ih with ⟨h1, h2⟩ | ⟨o, h1, h2, h3, h4, h5, h6⟩
   ·exact .inl ⟨h1, fun j hj => if e : j = k then e ▸ h0 else h2 j (by omega)⟩
   ·refine .inr ⟨o, h1, by omega, h3, h4, fun j hj hj0 => ?_, h6⟩
    by_cases e : j = k
    ·subst e; omega
    ·exact h5 j (by omega) hj0
  ·rw [if_neg h0]
   rcases ih with ⟨h1, h2⟩ | ⟨o, h1, h2, h3, h4, h5, h6⟩
   ·rw [if_pos (.inl (by omega))]
    refine .inr ⟨k, rfl, by omega, by omega, rfl, fun j hj hj0 => ?_, fun j hj hj0 => ?_⟩
    ·by_cases e : j = k
     ·subst e; exact Int.le_refl _
     ·have := h2 j (by omega); omega
    ·have := h2 j (by omega); omega
   ·have ho := hc o (by omega)
    by_cases hlt : c k + row k < (bG c row k).1
    ·rw [if_pos (.inr hlt)]
     refine .inr ⟨k, rfl, by omega, by omega, rfl, fun j hj hj0 => ?_, fun j hj hj0 => ?_⟩
     ·by_cases e : j = k
      ·subst e; exact Int.le_refl _
      ·have := h5 j (by omega) hj0; simp only; omega
     ·have := h5 j (by omega) hj0; simp only; omega
    ·rw [if_neg (by intro h; omega)]
     refine .inr ⟨o, h1, by omega, h3, h4, fun j hj hj0 => ?_, h6⟩
     by_cases e : j = k
     ·subst e; omega
     ·exact h5 j (by omega) hj0
end
end
section
section
variable {n m : Nat} {par own : Nat → Int} {cost : Nat → Nat → Int}
def uF (n : Nat) (par : Nat → Int) : Nat → Nat → Int
 | 0, _ => 0
 | d + 1, i => b7 (fun c => if i < c ∧ par c = i then uF n par d c + 1000 else 0) n
def ub (n : Nat) (par : Nat → Int) (i : Nat) : Int := uF n par n i
theorem KY : ∀ {d e i : Nat}, n ≤ i + d → n ≤ i + e → i < n → uF n par d i = uF n par e i
 | 0, _, _, h, _, hi => by omega
 | _, 0, _, _, h, hi => by omega
 | d + 1, e + 1, i, h1, h2, hi => by
  show b7 _ _ = b7 _ _
  refine gh fun c hc => ?_
  split
  ·rename_i hk
   rw [KY (d := d) (e := e) (by omega) (by omega) hc]
  ·rfl
theorem T6 {i : Nat} (hi : i < n) : ub n par i = b7 (fun c => if i < c ∧ par c = i then ub n par c + 1000 else 0) n := by
 unfold ub
 obtain ⟨d, rfl⟩ : ∃ d, n = d + 1 := ⟨n - 1, by omega⟩
 show b7 _ _ = _
 refine gh fun c hc => ?_
 split
 ·rename_i hk
  rw [KY (d := d) (e := d + 1) (by omega) (by omega) hc]
 ·rfl
theorem Oa (d : Nat) : ∀ i : Nat, 0 ≤ uF n par d i := by
 induction d with
 | zero => intro i; exact Int.le_refl _
 | succ d ih =>
  intro i
  exact uu fun c _ => by
   have := ih c
   split <;> omega
theorem xX (i : Nat) : 0 ≤ ub n par i := Oa _ _
def BG (n : Nat) (par : Nat → Int) (k : Nat) : Int := b7 (fun c => if k ≤ c ∧ par c < k then ub n par c + 1000 else 0) n
theorem Rq (h : ∀ c, c < n → par c < c) {k : Nat} (hk : k < n) : BG n par k = BG n par (k + 1) + 1000 := by
 have h1 : BG n par k = b7 (fun c => if k + 1 ≤ c ∧ par c < k then ub n par c + 1000 else 0) n + b7 (fun c => if c = k then ub n par k + 1000 else 0) n := by
  rw [← AH]; unfold BG
  refine gh fun c hc => ?_
  by_cases e : c = k
  ·subst e
   have := h c hc
   rw [if_pos ⟨Nat.le_refl _, this⟩, if_neg (by omega), if_pos rfl]; omega
  ·by_cases h2 : k ≤ c ∧ par c < k
   ·rw [if_pos h2, if_pos ⟨by omega, h2.2⟩, if_neg e]; omega
   ·rw [if_neg h2, if_neg (fun h3 => h2 ⟨by omega, h3.2⟩), if_neg e]; rfl
 have h2 : BG n par (k + 1) = b7 (fun c => if k + 1 ≤ c ∧ par c < k then ub n par c + 1000 else 0) n + b7 (fun c => if k < c ∧ par c = k then ub n par c + 1000 else 0) n := by
  rw [← AH]; unfold BG
  refine gh fun c _ => ?_
  by_cases h3 : k + 1 ≤ c
  ·by_cases h4 : par c = k
   ·rw [if_pos ⟨h3, by omega⟩, if_neg (by omega), if_pos ⟨h3, h4⟩]; omega
   ·by_cases h5 : par c < k
    ·rw [if_pos ⟨h3, by omega⟩, if_pos ⟨h3, h5⟩, if_neg (fun h => h4 h.2)]; omega
    ·rw [if_neg (by omega), if_neg (fun h => h5 h.2), if_neg (fun h => h4 h.2)]; rfl
  ·rw [if_neg (fun h => h3 h.1), if_neg (fun h => h3 h.1), if_neg (fun h => h3 (by omega))]; rfl
 rw [Gf, if_pos hk] at h1
 rw [← T6 hk] at h2
 omega
theorem Ob (h : ∀ c, c < n → par c < c) : ∀ {d k : Nat}, k + d = n → BG n par k = 1000 * (d : Int)
 | 0, k, e => by
  have : BG n par k = b7 (fun _ => 0) n := gh fun c hc => by rw [if_neg (by omega)]
  rw [this, tL]; rfl
 | d + 1, k, e => by
  rw [Rq h (by omega), Ob h (d := d) (k := k + 1) (by omega)]; omega
theorem KZ {f : Nat → Int} : ∀ {n k : Nat}, (∀ c, c < n → 0 ≤ f c) → k < n → f k ≤ b7 f n
 | 0, _, _, h => absurd h (Nat.not_lt_zero _)
 | n + 1, k, h, hk => by
  rw [fK]
  by_cases e : k = n
  ·subst e; have := uu (f := f) (n := k) fun c hc => h c (by omega); omega
  ·have := KZ (f := f) (n := n) (k := k) (fun c hc => h c (by omega)) (by omega)
   have := h n (by omega); omega
theorem ub_le (h : ∀ c, c < n → par c < c) {k : Nat} (hk : k < n) : ub n par k + 1000 ≤ 1000 * ((n - k : Nat) : Int) := by
 have h1 := Ob h (d := n - k) (k := k) (by omega)
 have h2 := KZ (f := fun c => if k ≤ c ∧ par c < k then ub n par c + 1000 else 0) (n := n) (k := k) (fun c _ => by
  have := xX (n := n) (par := par) c
  show 0 ≤ (if k ≤ c ∧ par c < k then ub n par c + 1000 else 0)
  split <;> omega) hk
 rw [if_pos ⟨Nat.le_refl _, h k hk⟩] at h2
 unfold BG at h1
 omega
theorem Gg (F : Xq n m par own cost) : ∀ {d i : Nat}, n ≤ i + d → i < n →
  (∀ s, s < m → -1 ≤ tab n m par own cost i s ∧ tab n m par own cost i s ≤ ub n par i) ∧ (∃ s, s < m ∧ 0 ≤ tab n m par own cost i s) ∧
  (own i = -1 → ∀ s, s < m → 0 ≤ tab n m par own cost i s) ∧ (0 ≤ own i → ∀ s, s < m → tab n m par own cost i s = if own i = s then 0 else -1)
 | 0, i, h, hi => by omega
 | d + 1, i, h, hi => by
  have Xr : ∀ s, s < m → ∀ c, c < n → i < c → 0 ≤ (bG (cost s) (tab n m par own cost c) m).1 ∧ (bG (cost s) (tab n m par own cost c) m).1 ≤ ub n par c + 1000 := by
   intro s hs c hc hic
   obtain ⟨h1, ⟨j, hj, hj0⟩, _⟩ := Gg F (d := d) (i := c) (by omega) hc
   rcases vV (c := cost s) (row := tab n m par own cost c) (A := ub n par c) (xX _) (k := m) (fun j hj => F.Mv s j hs hj) (fun j hj => (h1 j hj).2) with ⟨_, h3⟩ | ⟨o, _, ho, zN, h4, h5, _⟩
   ·have := h3 j hj; omega
   ·have := h5 j hj hj0
    have := (h1 j hj).2
    have := F.Mv s j hs hj
    have := F.Mv s o hs ho
    constructor <;> omega
  have Mw : ∀ s, s < m → 0 ≤ b7 (fun c => if i < c ∧ par c = i then (bG (cost s) (tab n m par own cost c) m).1 else 0) n ∧ b7 (fun c => if i < c ∧ par c = i then (bG (cost s) (tab n m par own cost c) m).1 else 0) n ≤ ub n par i := by
   intro s hs
   constructor
   ·exact uu fun c hc => by
     split
     ·rename_i h2; exact (Xr s hs c hc h2.1).1
     ·exact Int.le_refl _
   ·rw [T6 hi]
    exact tK fun c hc => by
     split
     ·rename_i h2; exact (Xr s hs c hc h2.1).2
     ·exact Int.le_refl _
  have heq : ∀ s, tab n m par own cost i s = (if 0 ≤ own i ∧ own i ≠ s then -1 else 0) + b7 (fun c => if i < c ∧ par c = i then (bG (cost s) (tab n m par own cost c) m).1 else 0) n := fun s => N9 hi s
  have hub := xX (n := n) (par := par) i
  have ho := F.own1 i hi
  refine ⟨fun s hs => ?_, ?_, fun h0 s hs => ?_, fun h0 s hs => ?_⟩
  ·rw [heq s]; have := Mw s hs; split <;> omega
  ·by_cases h0 : 0 ≤ own i
   ·refine ⟨(own i).toNat, by omega, ?_⟩
    rw [heq, if_neg (by omega)]; have := Mw (own i).toNat (by omega); omega
   ·refine ⟨0, F.m1, ?_⟩
    rw [heq, if_neg (by omega)]; have := Mw 0 F.m1; omega
  ·rw [heq, if_neg (by omega)]; have := Mw s hs; omega
  ·have hz : b7 (fun c => if i < c ∧ par c = i then (bG (cost s) (tab n m par own cost c) m).1 else 0) n = 0 := by
    refine (gh (g := fun _ => 0) fun c hc => ?_).trans (tL n)
    rw [if_neg]; intro h2; have := F.leaf i c hc h2.1 h2.2; omega
   rw [heq, hz]
   by_cases e : own i = s
   ·rw [if_neg (fun h => h.2 e), if_pos e]; rfl
   ·rw [if_pos ⟨h0, e⟩, if_neg e]; rfl
end
end
section
def gw (ns : List ByteArray) (i : Nat) : Int := bW (fun j => decide ((i : Int) = gi (ay ns) j)) (ay ns).length
def nT (ns : List ByteArray) (st : List Int) (i : Nat) : Int := if 0 ≤ gw ns i then gi st (gw ns i).toNat else -1
def gM (cs : List (List Int)) (a b : Nat) : Int := gi (gl cs a) b
def l9 (t : ax) (st : List Int) (cs : List (List Int)) (i s : Nat) : Int := tab t.ps.length cs.length (gi t.ps) (nT t.ns st) (gM cs) i s
def aV (t : ax) (st : List Int) (cs : List (List Int)) (i : Nat) : List Int := (List.range cs.length).map (l9 t st cs i)
theorem gj (t : ax) (st : List Int) (cs : List (List Int)) (i : Nat) : (aV t st cs i).length = cs.length := by simp [aV]
theorem eF (t : ax) (st : List Int) (cs : List (List Int)) (i : Nat) {s : Nat} (hs : s < cs.length) : gi (aV t st cs i) s = l9 t st cs i s := by
 simp [gi, aV, hs]
def iK (t : ax) (st : List Int) (cs : List (List Int)) (s c : Nat) : Int := (bG (gi (gl cs s)) (gi (aV t st cs c)) (aV t st cs c).length).1
theorem VR (t : ax) (st : List Int) (cs : List (List Int)) (s c : Nat) : iK t st cs s c = (bG (gM cs s) (l9 t st cs c) cs.length).1 := by
 unfold iK; rw [gj]
 have h : bG (gi (gl cs s)) (gi (aV t st cs c)) cs.length = bG (gM cs s) (l9 t st cs c) cs.length := qa (fun _ _ => rfl) fun j hj => eF t st cs c hj
 rw [h]
def eG (t : ax) (st : List Int) (i s : Nat) : Int := if 0 ≤ nT t.ns st i ∧ nT t.ns st i ≠ s then -1 else 0
theorem K0 (t : ax) (st : List Int) (cs : List (List Int)) {i : Nat} (hi : i < t.ps.length) (s : Nat) : l9 t st cs i s = eG t st i s + ((aQ t.ps i).map (iK t st cs s)).sum := by
 unfold l9; rw [N9 hi]; unfold xW aQ
 rw [D8]
 show eG t st i s + _ = _
 congr 1
 exact gh fun c _ => by
  split
  ·exact (VR t st cs s c).symm
  ·rfl
end
section
theorem Kq {t : ax} {st : List Int} {cs : List (List Int)} (h : ig t st cs = 0) : az t = 0 ∧ nS cs = 0 ∧ mN st (ay t.ns).length (-1) cs.length = 0 := by
 unfold ig at h
 by_cases h1 : az t = 0
 ·rw [if_neg (fun e => e h1)] at h
  by_cases h2 : nS cs = 0
  ·rw [if_neg (fun e => e h2)] at h; exact ⟨h1, h2, h⟩
  ·rw [if_pos h2] at h; exact absurd h h2
 ·rw [if_pos h1] at h; cases h
theorem aH {t : ax} (h : az t = 0) : 0 < t.ps.length ∧ t.ps.length ≤ 64 ∧ t.ns.length = t.ps.length ∧ iJ t.ps = true ∧ ∀ i, i < t.ps.length → ja t.ps t.ns i = 0 := by
 unfold az at h
 split at h
 ·cases h
 ·split at h
  ·cases h
  ·split at h
   ·cases h
   ·split at h
    ·exact ⟨by omega, by omega, by omega, ‹_›, kK h⟩
    ·cases h
theorem uv {cs : List (List Int)} (h : nS cs = 0) : 0 < cs.length ∧ cs.length ≤ 16 ∧ (∀ a, a < cs.length → (gl cs a).length = cs.length) ∧ (∀ a k, 0 ≤ gi (gl cs a) k ∧ gi (gl cs a) k ≤ 1000) ∧ ∀ a, a < cs.length → gi (gl cs a) a = 0 := by
 unfold nS at h
 split at h
 ·cases h
 ·split at h
  ·cases h
  ·split at h
   ·cases h
   ·rename_i hl
    split at h
    ·cases h
    ·rename_i hm
     have hl2 : N8 cs = false := by simpa using hl
     have hm2 : KX cs cs.length = false := by simpa using hm
     have hlen : ∀ a, a < cs.length → (gl cs a).length = cs.length := fun a ha => by have := any_false hl2 ha; simpa using this
     have mg : ∀ a b, a < cs.length → b < (gl cs a).length → Mt a b (gi (gl cs a) b) = false := fun a b ha hb => any_false (any_false hm2 ha) hb
     refine ⟨by omega, by omega, hlen, fun a k => ?_, fun a ha => ?_⟩
     ·by_cases ha : a < cs.length
      ·by_cases hk : k < (gl cs a).length
       ·have := mg a k ha hk
        simp [Mt] at this; omega
       ·have : gi (gl cs a) k = 0 := by simp [gi, List.getElem?_eq_none (by omega : (gl cs a).length ≤ k)]
        omega
      ·have : gl cs a = [] := by simp [gl, List.getElem?_eq_none (by omega : cs.length ≤ a)]
       rw [this]; simp [gi]
     ·have := mg a a ha (by rw [hlen a ha]; exact ha)
      simp [Mt] at this; exact this.2
theorem uw {ns : List ByteArray} {x : Int} : x ∈ ay ns ↔ ∃ i : Nat, x = i ∧ i < ns.length ∧ (gs ns i).size ≠ 0 := by
 unfold ay
 rw [List.mem_map]
 constructor
 ·rintro ⟨i, hi, rfl⟩
  rw [List.mem_filter, List.mem_range] at hi
  exact ⟨i, rfl, hi.1, by simpa using hi.2⟩
 ·rintro ⟨i, rfl, h1, h2⟩
  exact ⟨i, by rw [List.mem_filter, List.mem_range]; exact ⟨h1, by simpa using h2⟩, rfl⟩
theorem ux (ns : List ByteArray) : (ay ns).length ≤ ns.length := by
 unfold ay; rw [List.length_map]; exact Nat.le_trans (List.length_filter_le _ _) (by simp)
theorem xY {l : List Int} {k : Nat} (h : k < l.length) : gi l k ∈ l := by simp [gi, h]
theorem xZ {ns : List ByteArray} {i : Nat} (h : 0 ≤ gw ns i) : (gw ns i).toNat < (ay ns).length ∧ gi (ay ns) (gw ns i).toNat = i := by
 unfold gw at h ⊢
 generalize hx : bW (fun j => decide ((i : Int) = gi (ay ns) j)) (ay ns).length = x at *
 obtain ⟨k, rfl⟩ := Int.eq_ofNat_of_zero_le h
 have := r8 hx
 rw [Int.toNat_natCast]
 exact ⟨this.1, by have := this.2.1; simpa using (of_decide_eq_true this).symm⟩
structure Valid (t : ax) (st : List Int) (cs : List (List Int)) : Prop where
 tree : az t = 0
 T7 : nS cs = 0
 len : st.length = (ay t.ns).length
 good : iP st (-1) cs.length = false
theorem Gh {t : ax} {st : List Int} {cs : List (List Int)} (h : ig t st cs = 0) : Valid t st cs := by
 obtain ⟨h1, h2, h3⟩ := Kq h
 unfold mN at h3
 split at h3
 ·cases h3
 ·split at h3
  ·cases h3
  ·exact ⟨h1, h2, by omega, by simpa using ‹¬ iP st (-1) cs.length = true›⟩
theorem Valid.par {t : ax} {st : List Int} {cs : List (List Int)} (h : Valid t st cs) : ig t st cs = 0 := by
 unfold ig mN; rw [if_neg (fun e => e h.tree), if_neg (fun e => e h.T7), if_neg (fun e => e h.len), h.good]; rfl
theorem BH {ps : List Int} (h : iJ ps = true) {c : Nat} (hc : c < ps.length) : gi ps c < c ∧ (0 < c → 0 ≤ gi ps c) ∧ (c = 0 → gi ps c = -1) := by
 have := uK h hc
 unfold jm at this
 split at this
 ·simp at this; omega
 ·simp at this; omega
theorem kG {t : ax} (h : az t = 0) {i c : Nat} (hc : c < t.ps.length) (hi : i < c) (hp : gi t.ps c = i) : (gs t.ns i).size = 0 := by
 obtain ⟨_, _, _, hok, hn⟩ := aH h
 have hin : isIn t.ps i = true := List.any_eq_true.2 ⟨c, List.mem_range.2 hc, by simp [hp]; omega⟩
 have := hn i (by omega)
 unfold ja at this
 rw [if_pos hin] at this
 by_cases e : (gs t.ns i).size = 0
 ·exact e
 ·rw [if_neg e] at this; cases this
theorem vW {t : ax} (h : az t = 0) {i : Nat} (hi : i < t.ps.length) (hin : isIn t.ps i = false) : aZ (gs t.ns i).data.toList = true ∧ dI t.ns i = false := by
 obtain ⟨_, _, _, hok, hn⟩ := aH h
 have := hn i hi
 unfold ja at this
 rw [hin] at this
 cases h1 : aZ (gs t.ns i).data.toList
 ·rw [h1] at this; cases this
 ·cases h2 : dI t.ns i
  ·exact ⟨rfl, rfl⟩
  ·rw [h1, h2] at this; cases this
theorem Valid.fine {t : ax} {st : List Int} {cs : List (List Int)} (h : Valid t st cs) : Xq t.ps.length cs.length (gi t.ps) (nT t.ns st) (gM cs) := by
 obtain ⟨h1, h2, h3, hok, hn⟩ := aH h.tree
 obtain ⟨m1, m2, m3, m4, m5⟩ := uv h.T7
 refine ⟨m1, fun c h0 hc => (BH hok hc).2.1 h0, fun c hc => (BH hok hc).1, fun i _ => ?_, fun a b _ _ => m4 a b, fun i c hc hic hp => ?_⟩
 ·unfold nT
  split
  ·rename_i h0
   have hl := xZ h0
   have hb := any_false h.good (k := (gw t.ns i).toNat) (by rw [h.len]; exact hl.1)
   simp at hb; omega
  ·omega
 ·unfold nT
  rw [if_neg]; intro h0
  have hl := xZ h0
  have hm : (i : Int) ∈ ay t.ns := by rw [← hl.2]; exact xY hl.1
  obtain ⟨j, e, _, hne⟩ := uw.1 hm
  obtain rfl : i = j := by omega
  exact hne (kG h.tree hc hic hp)
theorem Valid.tb {t : ax} {st : List Int} {cs : List (List Int)} (h : Valid t st cs) (j s : Nat) (hj : j < t.ps.length) : -1 ≤ gi (aV t st cs j) s ∧ gi (aV t st cs j) s ≤ 100000 := by
 by_cases hs : s < cs.length
 ·rw [eF t st cs j hs]
  have h1 := (Gg h.fine (d := t.ps.length) (i := j) (by omega) hj).1 s hs
  have h2 := ub_le (par := gi t.ps) h.fine.parlt hj
  obtain ⟨_, h3, _⟩ := aH h.tree
  unfold l9
  constructor <;> omega
 ·have : gi (aV t st cs j) s = 0 := by simp [gi, aV, hs]
  omega
def cE (t : ax) (st : List Int) (cs : List (List Int)) : Int := if ig t st cs = 0 then (bG (fun _ => 0) (gi (aV t st cs 0)) cs.length).1 else 0
end
section
section
variable {t : ax} {st : List Int} {cs : List (List Int)}
theorem zh (hv : Valid t st cs) {c : Nat → Int} (hc : ∀ j, j < cs.length → 0 ≤ c j ∧ c j ≤ 1000) {k : Nat} (hk : k < t.ps.length) :
  ∃ o : Nat, (bG c (gi (aV t st cs k)) cs.length).2 = o ∧ o < cs.length ∧ 0 ≤ gi (aV t st cs k) o ∧ (bG c (gi (aV t st cs k)) cs.length).1 = c o + gi (aV t st cs k) o ∧
   (∀ j, j < cs.length → 0 ≤ gi (aV t st cs k) j → (bG c (gi (aV t st cs k)) cs.length).1 ≤ c j + gi (aV t st cs k) j) ∧
   (∀ j, j < o → 0 ≤ gi (aV t st cs k) j → (bG c (gi (aV t st cs k)) cs.length).1 < c j + gi (aV t st cs k) j) := by
 obtain ⟨_, ⟨s, hs, hs0⟩, _⟩ := Gg hv.fine (d := t.ps.length) (i := k) (by omega) hk
 have hs1 : 0 ≤ gi (aV t st cs k) s := by rw [eF _ _ _ _ hs]; exact hs0
 rcases vV (c := c) (row := gi (aV t st cs k)) (A := 100000) (by omega) (k := cs.length) hc (fun j _ => (hv.tb k j hk).2) with ⟨_, h⟩ | h
 ·have := h s hs; omega
 ·exact h
end
end
section
end
section
section
variable {n m : Nat} {par own own' : Nat → Int} {cost : Nat → Nat → Int}
end
end
section
theorem Oc (ns : List ByteArray) {i j : Nat} (hj : j < (ay ns).length) (hij : i < j) : gi (ay ns) i < gi (ay ns) j := by
 have hp : (ay ns).Pairwise (· < ·) := by
  unfold ay
  rw [List.pairwise_map]
  refine (List.Pairwise.filter _ List.pairwise_lt_range).imp ?_
  intro a b h; omega
 have h := List.pairwise_iff_getElem.1 hp i j (by omega) hj hij
 have hi : i < (ay ns).length := by omega
 simpa [gi, hi, hj] using h
theorem Od {ns : List ByteArray} {i k : Nat} (hi : i < (ay ns).length) (hk : gi (ay ns) i = k) : gw ns k = i := by
 unfold gw
 refine iO hi (fun j hj => ?_) (by simp [hk])
 have := Oc ns hi hj
 simp; omega
theorem VS {ns : List ByteArray} {st : List Int} {i k : Nat} (hi : i < (ay ns).length) (hk : gi (ay ns) i = k) : nT ns st k = gi st i := by
 unfold nT; rw [Od hi hk, if_pos (by omega), Int.toNat_natCast]
theorem r9 {ns : List ByteArray} {i : Nat} (hi : i < (ay ns).length) : ∃ k : Nat, gi (ay ns) i = k ∧ k < ns.length ∧ (gs ns k).size ≠ 0 := by
 obtain ⟨k, e, h1, h2⟩ := uw.1 (xY hi)
 exact ⟨k, e, h1, h2⟩
section
variable {t : ax} {st : List Int} {cs : List (List Int)}
theorem Oe (h : Valid t st cs) : cE t st cs = (bG (fun _ => 0) (gi (aV t st cs 0)) cs.length).1 := by unfold cE; rw [if_pos h.par]
theorem Gi (h : Valid t st cs) : ∃ o : Nat, (bG (fun _ => 0) (gi (aV t st cs 0)) cs.length).2 = o ∧ o < cs.length ∧ 0 ≤ l9 t st cs 0 o ∧ cE t st cs = l9 t st cs 0 o ∧
  ∀ j, j < cs.length → 0 ≤ l9 t st cs 0 j → cE t st cs ≤ l9 t st cs 0 j := by
 have ni := (aH h.tree).1
 obtain ⟨o, h1, h2, h3, h4, h5, _⟩ := zh h (c := fun _ => 0) (fun _ _ => by omega) ni
 rw [Oe h]
 rw [eF _ _ _ _ h2] at h3 h4
 refine ⟨o, h1, h2, h3, by rw [h4]; omega, fun j hj hj0 => ?_⟩
 have := h5 j hj (by rw [eF _ _ _ _ hj]; exact hj0)
 rw [eF _ _ _ _ hj] at this
 omega
theorem x4 (h : Valid t st cs) : 0 ≤ cE t st cs := by obtain ⟨o, _, _, h3, h4, _⟩ := Gi h; omega
theorem Ea (h : Valid t st cs) : cE t st cs ≤ 100000 := by
 obtain ⟨o, _, h2, _, h4, _⟩ := Gi h
 have := (h.tb 0 o (aH h.tree).1).2
 rw [eF _ _ _ _ h2] at this; omega
end
end
section
end
section
def setRow (xs : List (List Int)) (k : Nat) (y : List Int) : List (List Int) := xs.set k y
end
end Go.Proofs.YteegefnjnikngaaGreat
