/- What the functions of layers 1 and 31 compute, as plain functions on lists. -/
namespace Go.Proofs.Ytflikmllpimaiaa
def gi (l : List Int) (k : Nat) : Int := l.getD k 0
def gs (l : List ByteArray) (k : Nat) : ByteArray := l.getD k ByteArray.empty
def gb (l : List Bool) (k : Nat) : Bool := l.getD k false
def gl (l : List (List Int)) (k : Nat) : List Int := l.getD k []
/-- A tree as data: the parents and the names. -/
structure Tre where
  ps : List Int
  ns : List ByteArray

theorem loop_eq (bs : ByteArray) : ∀ (n i : Nat) (r : List UInt8), bs.size - i = n → ByteArray.toList.loop bs i r = r.reverse ++ bs.data.toList.drop i := by
  intro n
  induction n with
  | zero =>
    intro i r h
    unfold ByteArray.toList.loop
    rw [if_neg (by omega), List.drop_of_length_le (by simp; omega)]; simp
  | succ n ih =>
    intro i r h
    unfold ByteArray.toList.loop
    have hi : i < bs.size := by omega
    rw [if_pos hi, ih (i + 1) _ (by omega), List.reverse_cons, List.append_assoc]
    congr 1
    rw [List.drop_eq_getElem_cons (i := i) (by simpa using hi), List.singleton_append]
    congr 1
    simp [ByteArray.get!, getElem!_pos, hi]
theorem toList_data (s : ByteArray) : s.toList = s.data.toList := by
  unfold ByteArray.toList; rw [loop_eq s _ 0 [] rfl]; simp
theorem toList_nil (s : ByteArray) : s.toList = [] ↔ s.size = 0 := by
  rw [toList_data, ← List.length_eq_zero_iff]; simp
theorem size_data (s : ByteArray) : s.data.toList.length = s.size := by simp
theorem ba_ext {a b : ByteArray} (h : a.data.toList = b.data.toList) : a = b := by
  cases a; cases b; simpa using h
def isLet (c : Nat) : Bool := (97 ≤ c && c ≤ 122) || (65 ≤ c && c ≤ 90)
def isPun (c : Nat) : Bool := c == 46 || c == 44 || c == 59 || c == 58 || c == 33 || c == 63 || c == 40 || c == 41 || c == 45
def kindL (c : Nat) : Int := if isLet c then 1 else if c = 94 ∨ c = 126 ∨ c = 37 then 2 else if 48 ≤ c ∧ c ≤ 57 then 3 else if c = 39 then 4 else if c = 32 then 6 else if isPun c then 5 else 0
def aln (c : UInt8) : Bool := isLet c.toNat || (48 ≤ c.toNat && c.toNat ≤ 57)
def cntA (l : List UInt8) : Nat := l.countP aln
def isNameB (l : List UInt8) : Bool := 1 ≤ l.length && l.length ≤ 16 && l.all aln
/-- The names of leaves: a name, or a name of at most 15 bytes with '*' behind it. -/
def namedB (l : List UInt8) : Bool := if l.getLast? = some 42 then isNameB l.dropLast && l.length ≤ 16 else isNameB l

/-- Each parent but the root's, which is -1, is a lesser node. -/
def okp (i : Nat) (p : Int) : Bool := if i = 0 then p == -1 else decide (0 ≤ p) && decide (p < i)
def pOkB (ps : List Int) : Bool := (List.range ps.length).all fun i => okp i (gi ps i)
/-- Has node i a child among the nodes before n? -/
def inK (ps : List Int) (n i : Nat) : Bool := (List.range n).any fun j => decide (0 < j) && gi ps j == (i : Int)
def isIn (ps : List Int) (i : Nat) : Bool := inK ps ps.length i
def seenK (ns : List ByteArray) (i : Nat) : Bool := (List.range i).any fun j => decide (gs ns j = gs ns i)
def nErr (ps : List Int) (ns : List ByteArray) (i : Nat) : Int :=
  if isIn ps i then (if (gs ns i).size = 0 then 0 else 14) else if namedB (gs ns i).data.toList then (if seenK ns i then 7 else 0) else 14
/-- The first number that is not 0, of the first n. -/
def firstNZ (f : Nat → Int) : Nat → Int
  | 0 => 0
  | n + 1 => if firstNZ f n = 0 then f n else firstNZ f n
def treeErr (t : Tre) : Int :=
  if t.ps.length = 0 then 5 else if 64 < t.ps.length then 4 else if t.ns.length ≠ t.ps.length then 9
  else if pOkB t.ps then firstNZ (nErr t.ps t.ns) t.ps.length else 2
def leavesL (ns : List ByteArray) : List Int := ((List.range ns.length).filter fun i => (gs ns i).size ≠ 0).map fun (i : Nat) => (i : Int)

theorem firstNZ_zero {f : Nat → Int} : ∀ {n : Nat}, (∀ j, j < n → f j = 0) → firstNZ f n = 0
  | 0, _ => rfl
  | n + 1, h => by
    unfold firstNZ
    rw [if_pos (firstNZ_zero fun j hj => h j (by omega))]; exact h n (by omega)
theorem firstNZ_at {f : Nat → Int} {k : Nat} : ∀ {n : Nat}, k < n → (∀ j, j < k → f j = 0) → f k ≠ 0 → firstNZ f n = f k
  | 0, h, _, _ => absurd h (Nat.not_lt_zero _)
  | n + 1, hk, h, hne => by
    unfold firstNZ
    by_cases e : k = n
    · subst e; rw [if_pos (firstNZ_zero h)]
    · rw [firstNZ_at (by omega) h hne, if_neg hne]
theorem firstNZ_eq_zero {f : Nat → Int} : ∀ {n : Nat}, firstNZ f n = 0 → ∀ j, j < n → f j = 0
  | 0, _, j, hj => absurd hj (Nat.not_lt_zero _)
  | n + 1, h, j, hj => by
    unfold firstNZ at h
    split at h
    · rename_i h0
      by_cases e : j = n
      · subst e; exact h
      · exact firstNZ_eq_zero h0 j (by omega)
    · rename_i h0; exact absurd h h0
theorem inK_succ (ps : List Int) (n i : Nat) : inK ps (n + 1) i = (inK ps n i || (decide (0 < n) && gi ps n == (i : Int))) := by
  simp [inK, List.range_succ, List.any_append]
theorem pOkB_bad {ps : List Int} {k : Nat} (hk : k < ps.length) (h : okp k (gi ps k) = false) : pOkB ps = false := by
  rw [Bool.eq_false_iff]; intro e
  have := List.all_eq_true.1 e k (List.mem_range.2 hk)
  simp [h] at this
theorem pOkB_all {ps : List Int} (h : ∀ j, j < ps.length → okp j (gi ps j) = true) : pOkB ps = true :=
  List.all_eq_true.2 fun j hj => h j (List.mem_range.1 hj)
theorem pOkB_at {ps : List Int} (h : pOkB ps = true) {j : Nat} (hj : j < ps.length) : okp j (gi ps j) = true :=
  List.all_eq_true.1 h j (List.mem_range.2 hj)
/-- The first index below n at which p holds, or -1. -/
def firstIx (p : Nat → Bool) : Nat → Int
  | 0 => -1
  | n + 1 => if firstIx p n = -1 then (if p n then (n : Int) else -1) else firstIx p n
theorem firstIx_succ (p : Nat → Bool) (n : Nat) : firstIx p (n + 1) = if firstIx p n = -1 then (if p n then (n : Int) else -1) else firstIx p n := rfl
theorem firstIx_none {p : Nat → Bool} : ∀ {n : Nat}, (∀ j, j < n → p j = false) → firstIx p n = -1
  | 0, _ => rfl
  | n + 1, h => by
    rw [firstIx_succ, if_pos (firstIx_none fun j hj => h j (by omega)), h n (by omega)]; rfl
theorem firstIx_at {p : Nat → Bool} {k : Nat} : ∀ {n : Nat}, k < n → (∀ j, j < k → p j = false) → p k = true → firstIx p n = k
  | 0, h, _, _ => absurd h (Nat.not_lt_zero _)
  | n + 1, hk, h, hp => by
    rw [firstIx_succ]
    by_cases e : k = n
    · subst e; rw [if_pos (firstIx_none h), hp]; rfl
    · rw [firstIx_at (by omega) h hp, if_neg (by omega)]
theorem firstIx_lo (p : Nat → Bool) (n : Nat) : -1 ≤ firstIx p n ∧ firstIx p n < n ∧ (firstIx p n = -1 ∨ 0 ≤ firstIx p n) := by
  induction n with
  | zero => simp [firstIx]
  | succ n ih => rw [firstIx_succ]; split <;> (try split) <;> omega
theorem firstIx_any (p : Nat → Bool) (n : Nat) : decide (0 ≤ firstIx p n) = (List.range n).any p := by
  induction n with
  | zero => simp [firstIx]
  | succ n ih =>
    have hl := firstIx_lo p n
    rw [List.range_succ, List.any_append, ← ih, firstIx_succ]
    by_cases h : firstIx p n = -1
    · rw [if_pos h, h]; cases hp : p n <;> simp [hp]
    · rw [if_neg h]; have : 0 ≤ firstIx p n := by omega
      simp [this]
theorem firstIx_spec {p : Nat → Bool} {n k : Nat} (h : firstIx p n = k) : k < n ∧ p k = true ∧ ∀ j, j < k → p j = false := by
  induction n with
  | zero => simp [firstIx] at h
  | succ n ih =>
    rw [firstIx_succ] at h
    by_cases h1 : firstIx p n = -1
    · rw [if_pos h1] at h
      by_cases hp : p n = true
      · rw [if_pos hp] at h
        obtain rfl : n = k := by omega
        refine ⟨by omega, hp, fun j hj => ?_⟩
        cases hq : p j with
        | false => rfl
        | true =>
          exfalso
          have := firstIx_any p n
          rw [h1] at this
          have h2 : (List.range n).any p = true := List.any_eq_true.2 ⟨j, List.mem_range.2 hj, hq⟩
          rw [h2] at this; simp at this
      · rw [if_neg hp] at h; omega
    · rw [if_neg h1] at h
      have := ih h
      exact ⟨by omega, this.2⟩
end Go.Proofs.Ytflikmllpimaiaa
