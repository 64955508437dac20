/- What the functions of layers 1 and 31 compute, as plain functions on lists. Plain: the leaves of a tree, in order. Plain: the children of a node. Plain: costs and states. Plain: the least numbers, the table. Plain: the table of a tree. Plain: the numbers of the table are not too great. Plain: the rows of the table of a tree, its leaves' states and costs. Plain: what valid arguments are. Plain: the first best assignment. Plain: the cost of an assignment. Plain laws of the table: an unknown leaf, doubled costs, least costs. Plain laws of the score. Plain: an assignment of numbers, made to fit. Plain: what Verify accepts. -/

namespace Go.Proofs.YtcbmbhghmfehpaaGreat
def gi (l : List Int) (k : Nat) : Int := l.getD k 0
def gs (l : List ByteArray) (k : Nat) : ByteArray := l.getD k ByteArray.empty
def gl (l : List (List Int)) (k : Nat) : List Int := l.getD k []
structure Tre where
  ps : List Int
  ns : List ByteArray

theorem loop_eq (bs : ByteArray) : ∀ (n i : Nat) (r : List UInt8), bs.size - i = n → ByteArray.toList.loop bs i r = r.reverse ++ bs.data.toList.drop i := by
  intro n
  induction n with
  | zero =>
    intro i r h
    unfold ByteArray.toList.loop
    rw [if_neg (by omega), List.drop_of_length_le (by simp; omega)]; simp
  | succ n ih =>
    intro i r h
    unfold ByteArray.toList.loop
    have hi : i < bs.size := by omega
    rw [if_pos hi, ih (i + 1) _ (by omega), List.reverse_cons, List.append_assoc]
    congr 1
    rw [List.drop_eq_getElem_cons (i := i) (by simpa using hi), List.singleton_append]
    congr 1
    simp [ByteArray.get!, getElem!_pos, hi]
theorem toList_data (s : ByteArray) : s.toList = s.data.toList := by
  unfold ByteArray.toList; rw [loop_eq s _ 0 [] rfl]; simp
theorem toList_nil (s : ByteArray) : s.toList = [] ↔ s.size = 0 := by
  rw [toList_data, ← List.length_eq_zero_iff]; simp
theorem size_data (s : ByteArray) : s.data.toList.length = s.size := by simp
theorem ba_ext {a b : ByteArray} (h : a.data.toList = b.data.toList) : a = b := by
  cases a; cases b; simpa using h
def isLet (c : Nat) : Bool := (97 ≤ c && c ≤ 122) || (65 ≤ c && c ≤ 90)
def isPun (c : Nat) : Bool := c == 46 || c == 44 || c == 59 || c == 58 || c == 33 || c == 63 || c == 40 || c == 41 || c == 45
def kindL (c : Nat) : Int := if isLet c then 1 else if c = 94 ∨ c = 126 ∨ c = 37 then 2 else if 48 ≤ c ∧ c ≤ 57 then 3 else if c = 39 then 4 else if c = 32 then 6 else if isPun c then 5 else 0
def aln (c : UInt8) : Bool := isLet c.toNat || (48 ≤ c.toNat && c.toNat ≤ 57)
def cntA (l : List UInt8) : Nat := l.countP aln
def isNameB (l : List UInt8) : Bool := 1 ≤ l.length && l.length ≤ 16 && l.all aln
def namedB (l : List UInt8) : Bool := if l.getLast? = some 42 then isNameB l.dropLast && l.length ≤ 16 else isNameB l

def okp (i : Nat) (p : Int) : Bool := if i = 0 then p == -1 else decide (0 ≤ p) && decide (p < i)
def pOkB (ps : List Int) : Bool := (List.range ps.length).all fun i => okp i (gi ps i)
def inK (ps : List Int) (n i : Nat) : Bool := (List.range n).any fun j => decide (0 < j) && gi ps j == (i : Int)
def isIn (ps : List Int) (i : Nat) : Bool := inK ps ps.length i
def seenK (ns : List ByteArray) (i : Nat) : Bool := (List.range i).any fun j => decide (gs ns j = gs ns i)
def nErr (ps : List Int) (ns : List ByteArray) (i : Nat) : Int :=
  if isIn ps i then (if (gs ns i).size = 0 then 0 else 14) else if namedB (gs ns i).data.toList then (if seenK ns i then 7 else 0) else 14
def firstNZ (f : Nat → Int) : Nat → Int
  | 0 => 0
  | n + 1 => if firstNZ f n = 0 then f n else firstNZ f n
def treeErr (t : Tre) : Int :=
  if t.ps.length = 0 then 5 else if 64 < t.ps.length then 4 else if t.ns.length ≠ t.ps.length then 9
  else if pOkB t.ps then firstNZ (nErr t.ps t.ns) t.ps.length else 2
def leavesL (ns : List ByteArray) : List Int := ((List.range ns.length).filter fun i => (gs ns i).size ≠ 0).map fun (i : Nat) => (i : Int)

theorem firstNZ_zero {f : Nat → Int} : ∀ {n : Nat}, (∀ j, j < n → f j = 0) → firstNZ f n = 0
  | 0, _ => rfl
  | n + 1, h => by
    unfold firstNZ
    rw [if_pos (firstNZ_zero fun j hj => h j (by omega))]; exact h n (by omega)
theorem firstNZ_at {f : Nat → Int} {k : Nat} : ∀ {n : Nat}, k < n → (∀ j, j < k → f j = 0) → f k ≠ 0 → firstNZ f n = f k
  | 0, h, _, _ => absurd h (Nat.not_lt_zero _)
  | n + 1, hk, h, hne => by
    unfold firstNZ
    by_cases e : k = n
    · subst e; rw [if_pos (firstNZ_zero h)]
    · rw [firstNZ_at (by omega) h hne, if_neg hne]
theorem firstNZ_eq_zero {f : Nat → Int} : ∀ {n : Nat}, firstNZ f n = 0 → ∀ j, j < n → f j = 0
  | 0, _, j, hj => absurd hj (Nat.not_lt_zero _)
  | n + 1, h, j, hj => by
    unfold firstNZ at h
    split at h
    · rename_i h0
      by_cases e : j = n
      · subst e; exact h
      · exact firstNZ_eq_zero h0 j (by omega)
    · rename_i h0; exact absurd h h0
theorem inK_succ (ps : List Int) (n i : Nat) : inK ps (n + 1) i = (inK ps n i || (decide (0 < n) && gi ps n == (i : Int))) := by
  simp [inK, List.range_succ, List.any_append]
theorem pOkB_bad {ps : List Int} {k : Nat} (hk : k < ps.length) (h : okp k (gi ps k) = false) : pOkB ps = false := by
  rw [Bool.eq_false_iff]; intro e
  have := List.all_eq_true.1 e k (List.mem_range.2 hk)
  simp [h] at this
theorem pOkB_all {ps : List Int} (h : ∀ j, j < ps.length → okp j (gi ps j) = true) : pOkB ps = true :=
  List.all_eq_true.2 fun j hj => h j (List.mem_range.1 hj)
theorem pOkB_at {ps : List Int} (h : pOkB ps = true) {j : Nat} (hj : j < ps.length) : okp j (gi ps j) = true :=
  List.all_eq_true.1 h j (List.mem_range.2 hj)
def firstIx (p : Nat → Bool) : Nat → Int
  | 0 => -1
  | n + 1 => if firstIx p n = -1 then (if p n then (n : Int) else -1) else firstIx p n
theorem firstIx_succ (p : Nat → Bool) (n : Nat) : firstIx p (n + 1) = if firstIx p n = -1 then (if p n then (n : Int) else -1) else firstIx p n := rfl
theorem firstIx_none {p : Nat → Bool} : ∀ {n : Nat}, (∀ j, j < n → p j = false) → firstIx p n = -1
  | 0, _ => rfl
  | n + 1, h => by
    rw [firstIx_succ, if_pos (firstIx_none fun j hj => h j (by omega)), h n (by omega)]; rfl
theorem firstIx_at {p : Nat → Bool} {k : Nat} : ∀ {n : Nat}, k < n → (∀ j, j < k → p j = false) → p k = true → firstIx p n = k
  | 0, h, _, _ => absurd h (Nat.not_lt_zero _)
  | n + 1, hk, h, hp => by
    rw [firstIx_succ]
    by_cases e : k = n
    · subst e; rw [if_pos (firstIx_none h), hp]; rfl
    · rw [firstIx_at (by omega) h hp, if_neg (by omega)]
theorem firstIx_lo (p : Nat → Bool) (n : Nat) : -1 ≤ firstIx p n ∧ firstIx p n < n ∧ (firstIx p n = -1 ∨ 0 ≤ firstIx p n) := by
  induction n with
  | zero => simp [firstIx]
  | succ n ih => rw [firstIx_succ]; split <;> (try split) <;> omega
theorem firstIx_any (p : Nat → Bool) (n : Nat) : decide (0 ≤ firstIx p n) = (List.range n).any p := by
  induction n with
  | zero => simp [firstIx]
  | succ n ih =>
    have hl := firstIx_lo p n
    rw [List.range_succ, List.any_append, ← ih, firstIx_succ]
    by_cases h : firstIx p n = -1
    · rw [if_pos h, h]; cases hp : p n <;> simp [hp]
    · rw [if_neg h]; have : 0 ≤ firstIx p n := by omega
      simp [this]
theorem firstIx_spec {p : Nat → Bool} {n k : Nat} (h : firstIx p n = k) : k < n ∧ p k = true ∧ ∀ j, j < k → p j = false := by
  induction n with
  | zero => simp [firstIx] at h
  | succ n ih =>
    rw [firstIx_succ] at h
    by_cases h1 : firstIx p n = -1
    · rw [if_pos h1] at h
      by_cases hp : p n = true
      · rw [if_pos hp] at h
        obtain rfl : n = k := by omega
        refine ⟨by omega, hp, fun j hj => ?_⟩
        cases hq : p j with
        | false => rfl
        | true =>
          exfalso
          have := firstIx_any p n
          rw [h1] at this
          have h2 : (List.range n).any p = true := List.any_eq_true.2 ⟨j, List.mem_range.2 hj, hq⟩
          rw [h2] at this; simp at this
      · rw [if_neg hp] at h; omega
    · rw [if_neg h1] at h
      have := ih h
      exact ⟨by omega, this.2⟩
end Go.Proofs.YtcbmbhghmfehpaaGreat
namespace Go.Proofs.YtcbmbhghmfehpaaGreat
def leavesK (ns : List ByteArray) (k : Nat) : List Int := ((List.range k).filter fun i => (gs ns i).size ≠ 0).map fun (i : Nat) => (i : Int)
theorem leavesK_succ (ns : List ByteArray) (k : Nat) : leavesK ns (k + 1) = leavesK ns k ++ (if (gs ns k).size = 0 then [] else [(k : Int)]) := by
  unfold leavesK
  rw [List.range_succ, List.filter_append, List.map_append]
  congr 1
  by_cases h : (gs ns k).size = 0
  · have h2 : decide ((gs ns k).size ≠ 0) = false := by rw [decide_eq_false_iff_not]; exact fun e => e h
    rw [if_pos h]; simp only [List.filter_cons, h2, List.filter_nil]; rfl
  · have h2 : decide ((gs ns k).size ≠ 0) = true := by rw [decide_eq_true_eq]; exact h
    rw [if_neg h]; simp only [List.filter_cons, h2, List.filter_nil]; rfl
theorem leavesK_len (ns : List ByteArray) (k : Nat) : (leavesK ns k).length ≤ k := by
  unfold leavesK; rw [List.length_map]; exact Nat.le_trans (List.length_filter_le _ _) (by simp)
end Go.Proofs.YtcbmbhghmfehpaaGreat
namespace Go.Proofs.YtcbmbhghmfehpaaGreat
def kidsK (ps : List Int) (n k : Nat) : List Nat := (List.range k).filter fun i => decide (n < i) && gi ps i == (n : Int)
def kidsL (ps : List Int) (n : Nat) : List Nat := kidsK ps n ps.length
theorem kidsK_succ (ps : List Int) (n k : Nat) : kidsK ps n (k + 1) = kidsK ps n k ++ (if n < k ∧ gi ps k = n then [k] else []) := by
  unfold kidsK
  rw [List.range_succ, List.filter_append]
  congr 1
  by_cases h : n < k ∧ gi ps k = n
  · rw [if_pos h]; simp [h.1, h.2]
  · rw [if_neg h]
    have : (decide (n < k) && gi ps k == (n : Int)) = false := by
      rw [Bool.eq_false_iff]; intro e; apply h; simpa using e
    simp [this]
theorem kidsK_start (ps : List Int) (n : Nat) : kidsK ps n (n + 1) = [] := by
  unfold kidsK
  rw [List.filter_eq_nil_iff]; intro a ha; have := List.mem_range.1 ha; simp; omega
theorem kidsK_len (ps : List Int) (n k : Nat) : (kidsK ps n k).length ≤ k := by
  unfold kidsK; exact Nat.le_trans (List.length_filter_le _ _) (by simp)
theorem mem_kidsL {ps : List Int} {n i : Nat} : i ∈ kidsL ps n ↔ i < ps.length ∧ n < i ∧ gi ps i = n := by
  unfold kidsL kidsK; rw [List.mem_filter, List.mem_range]; simp
theorem kids_isIn {ps : List Int} (h : pOkB ps = true) (n : Nat) : kidsL ps n ≠ [] ↔ isIn ps n = true := by
  constructor
  · intro hne
    obtain ⟨i, hi⟩ := List.exists_mem_of_ne_nil _ hne
    obtain ⟨h1, h2, h3⟩ := mem_kidsL.1 hi
    exact List.any_eq_true.2 ⟨i, List.mem_range.2 h1, by simp [h3]; omega⟩
  · intro hin
    obtain ⟨i, hi, h2⟩ := List.any_eq_true.1 hin
    have hi := List.mem_range.1 hi
    simp at h2
    have := pOkB_at h hi
    unfold okp at this
    rw [if_neg (by omega)] at this
    simp at this
    exact List.ne_nil_of_mem (mem_kidsL.2 ⟨hi, by omega, h2.2⟩)
end Go.Proofs.YtcbmbhghmfehpaaGreat
namespace Go.Proofs.YtcbmbhghmfehpaaGreat
def stBad (st : List Int) (least most : Int) : Bool := (List.range st.length).any fun k => decide (gi st k < least) || decide (most ≤ gi st k)
def knownErr (st : List Int) (n : Nat) (least most : Int) : Int := if st.length ≠ n then 9 else if stBad st least most then 2 else 0
def badc (a b : Nat) (c : Int) : Bool := decide (c < 0) || decide (1000 < c) || (decide (a = b) && decide (c ≠ 0))
def rowBad (a : Nat) (row : List Int) (k : Nat) : Bool := (List.range k).any fun b => badc a b (gi row b)
def matBadK (cs : List (List Int)) (k : Nat) : Bool := (List.range k).any fun a => rowBad a (gl cs a) (gl cs a).length
def lenBad (cs : List (List Int)) : Bool := (List.range cs.length).any fun a => decide ((gl cs a).length ≠ cs.length)
def matErr (cs : List (List Int)) : Int := if cs.length = 0 then 5 else if 16 < cs.length then 4 else if lenBad cs then 9 else if matBadK cs cs.length then 2 else 0
theorem any_none {p : Nat → Bool} {n : Nat} (h : ∀ j, j < n → p j = false) : (List.range n).any p = false := by
  rw [Bool.eq_false_iff]; intro e
  obtain ⟨j, hj, hp⟩ := List.any_eq_true.1 e
  rw [h j (List.mem_range.1 hj)] at hp; cases hp
theorem any_at {p : Nat → Bool} {n k : Nat} (hk : k < n) (hp : p k = true) : (List.range n).any p = true := List.any_eq_true.2 ⟨k, List.mem_range.2 hk, hp⟩
theorem any_false {p : Nat → Bool} {n : Nat} (h : (List.range n).any p = false) {k : Nat} (hk : k < n) : p k = false := by
  cases e : p k with
  | false => rfl
  | true => rw [any_at hk e] at h; cases h
def parErr (t : Tre) (st : List Int) (cs : List (List Int)) : Int :=
  if treeErr t ≠ 0 then 1 else if matErr cs ≠ 0 then matErr cs else knownErr st (leavesL t.ns).length (-1) cs.length
end Go.Proofs.YtcbmbhghmfehpaaGreat
namespace Go.Proofs.YtcbmbhghmfehpaaGreat
def bestK (c row : Nat → Int) : Nat → Int × Int
  | 0 => (-1, 0)
  | k + 1 => if row k < 0 then bestK c row k else if (bestK c row k).1 < 0 ∨ c k + row k < (bestK c row k).1 then (c k + row k, (k : Int)) else bestK c row k
theorem bestK_succ (c row : Nat → Int) (k : Nat) : bestK c row (k + 1) = if row k < 0 then bestK c row k else if (bestK c row k).1 < 0 ∨ c k + row k < (bestK c row k).1 then (c k + row k, (k : Int)) else bestK c row k := rfl
theorem bestK_bd {c row : Nat → Int} {A : Int} (hA : 0 ≤ A) (hc : ∀ k, 0 ≤ c k ∧ c k ≤ 1000) (hr : ∀ k, row k ≤ A) (k : Nat) : -1 ≤ (bestK c row k).1 ∧ (bestK c row k).1 ≤ A + 1000 := by
  induction k with
  | zero => simp [bestK]; omega
  | succ k ih =>
    rw [bestK_succ]
    have := hc k; have := hr k
    split
    · exact ih
    · split
      · simp; omega
      · exact ih
end Go.Proofs.YtcbmbhghmfehpaaGreat
namespace Go.Proofs.YtcbmbhghmfehpaaGreat
def sumN (f : Nat → Int) : Nat → Int
  | 0 => 0
  | n + 1 => sumN f n + f n
theorem sumN_succ (f : Nat → Int) (n : Nat) : sumN f (n + 1) = sumN f n + f n := rfl
theorem sumN_congr {f g : Nat → Int} : ∀ {n : Nat}, (∀ c, c < n → f c = g c) → sumN f n = sumN g n
  | 0, _ => rfl
  | n + 1, h => by rw [sumN_succ, sumN_succ, sumN_congr fun c hc => h c (by omega), h n (by omega)]
theorem sumN_add (f g : Nat → Int) : ∀ n : Nat, sumN (fun c => f c + g c) n = sumN f n + sumN g n
  | 0 => rfl
  | n + 1 => by rw [sumN_succ, sumN_succ, sumN_succ, sumN_add f g n]; omega
theorem sumN_mono {f g : Nat → Int} : ∀ {n : Nat}, (∀ c, c < n → f c ≤ g c) → sumN f n ≤ sumN g n
  | 0, _ => Int.le_refl _
  | n + 1, h => by
    rw [sumN_succ, sumN_succ]
    have := sumN_mono (f := f) (g := g) (n := n) fun c hc => h c (by omega)
    have := h n (by omega); omega
theorem sumN_zero : ∀ n : Nat, sumN (fun _ => 0) n = 0
  | 0 => rfl
  | n + 1 => by rw [sumN_succ, sumN_zero n]; rfl
theorem sumN_nonneg {f : Nat → Int} {n : Nat} (h : ∀ c, c < n → 0 ≤ f c) : 0 ≤ sumN f n := by
  have := sumN_mono (f := fun _ => 0) (g := f) (n := n) h
  rw [sumN_zero] at this; exact this
theorem sumN_one (k : Nat) (x : Int) : ∀ n : Nat, sumN (fun c => if c = k then x else 0) n = if k < n then x else 0
  | 0 => rfl
  | n + 1 => by
    rw [sumN_succ, sumN_one k x n]
    by_cases h : n = k
    · subst h; simp
    · by_cases h2 : k < n
      · simp [h, h2]; omega
      · simp [h, h2]; omega
theorem kidsK_sum (ps : List Int) (i : Nat) (g : Nat → Int) : ∀ n : Nat, ((kidsK ps i n).map g).sum = sumN (fun c => if i < c ∧ gi ps c = i then g c else 0) n
  | 0 => rfl
  | n + 1 => by
    rw [kidsK_succ, List.map_append, List.sum_append, kidsK_sum ps i g n, sumN_succ]
    split <;> simp
def rowF (n m : Nat) (par own : Nat → Int) (cost : Nat → Nat → Int) (look : Nat → Nat → Int) (i s : Nat) : Int :=
  (if 0 ≤ own i ∧ own i ≠ s then -1 else 0) + sumN (fun c => if i < c ∧ par c = i then (bestK (cost s) (look c) m).1 else 0) n
def tabF (n m : Nat) (par own : Nat → Int) (cost : Nat → Nat → Int) : Nat → Nat → Nat → Int
  | 0 => fun _ _ => 0
  | d + 1 => rowF n m par own cost (tabF n m par own cost d)
def tab (n m : Nat) (par own : Nat → Int) (cost : Nat → Nat → Int) (i s : Nat) : Int := tabF n m par own cost n i s
theorem bestK_congr {c c' r r' : Nat → Int} : ∀ {k : Nat}, (∀ j, j < k → c j = c' j) → (∀ j, j < k → r j = r' j) → bestK c r k = bestK c' r' k
  | 0, _, _ => rfl
  | k + 1, h1, h2 => by
    rw [bestK_succ, bestK_succ, bestK_congr (fun j hj => h1 j (by omega)) (fun j hj => h2 j (by omega)), h1 k (by omega), h2 k (by omega)]
section
variable {n m : Nat} {par own : Nat → Int} {cost : Nat → Nat → Int}
theorem tabF_fuel : ∀ {d e i : Nat}, n ≤ i + d → n ≤ i + e → i < n → ∀ s, tabF n m par own cost d i s = tabF n m par own cost e i s
  | 0, _, _, h, _, hi, _ => by omega
  | _, 0, _, _, h, hi, _ => by omega
  | d + 1, e + 1, i, h1, h2, hi, s => by
    show rowF _ _ _ _ _ _ _ _ = rowF _ _ _ _ _ _ _ _
    unfold rowF
    congr 1
    refine sumN_congr fun c hc => ?_
    split
    · rename_i hk
      rw [bestK_congr (fun _ _ => rfl) fun j _ => tabF_fuel (d := d) (e := e) (by omega) (by omega) hc j]
    · rfl
theorem tab_eq {i : Nat} (hi : i < n) (s : Nat) : tab n m par own cost i s = rowF n m par own cost (tab n m par own cost) i s := by
  unfold tab
  obtain ⟨d, rfl⟩ : ∃ d, n = d + 1 := ⟨n - 1, by omega⟩
  show rowF _ _ _ _ _ _ _ _ = _
  unfold rowF
  congr 1
  refine sumN_congr fun c hc => ?_
  split
  · rename_i hk
    rw [bestK_congr (fun _ _ => rfl) fun j _ => tabF_fuel (d := d) (e := d + 1) (by omega) (by omega) hc j]
  · rfl
structure Fine (n m : Nat) (par own : Nat → Int) (cost : Nat → Nat → Int) : Prop where
  m1 : 0 < m
  par0 : ∀ c, 0 < c → c < n → 0 ≤ par c
  parlt : ∀ c, c < n → par c < c
  own1 : ∀ i, i < n → -1 ≤ own i ∧ own i < m
  cost1 : ∀ a b, a < m → b < m → 0 ≤ cost a b ∧ cost a b ≤ 1000
  leaf : ∀ i c, c < n → i < c → par c = i → own i = -1
theorem bestK_spec {c row : Nat → Int} {A : Int} (hA : 0 ≤ A) : ∀ {k : Nat}, (∀ j, j < k → 0 ≤ c j ∧ c j ≤ 1000) → (∀ j, j < k → row j ≤ A) →
    ((bestK c row k).1 = -1 ∧ (∀ j, j < k → row j < 0)) ∨
    (∃ o : Nat, (bestK c row k).2 = o ∧ o < k ∧ 0 ≤ row o ∧ (bestK c row k).1 = c o + row o ∧ (∀ j, j < k → 0 ≤ row j → (bestK c row k).1 ≤ c j + row j) ∧ (∀ j, j < o → 0 ≤ row j → (bestK c row k).1 < c j + row j))
  | 0, _, _ => .inl ⟨rfl, fun j hj => absurd hj (Nat.not_lt_zero _)⟩
  | k + 1, hc, hr => by
    have ih := bestK_spec (c := c) (row := row) hA (k := k) (fun j hj => hc j (by omega)) fun j hj => hr j (by omega)
    have hck := hc k (by omega)
    rw [bestK_succ]
    by_cases h0 : row k < 0
    · rw [if_pos h0]
      rcases ih with ⟨h1, h2⟩ | ⟨o, h1, h2, h3, h4, h5, h6⟩
      · exact .inl ⟨h1, fun j hj => if e : j = k then e ▸ h0 else h2 j (by omega)⟩
      · refine .inr ⟨o, h1, by omega, h3, h4, fun j hj hj0 => ?_, h6⟩
        by_cases e : j = k
        · subst e; omega
        · exact h5 j (by omega) hj0
    · rw [if_neg h0]
      rcases ih with ⟨h1, h2⟩ | ⟨o, h1, h2, h3, h4, h5, h6⟩
      · rw [if_pos (.inl (by omega))]
        refine .inr ⟨k, rfl, by omega, by omega, rfl, fun j hj hj0 => ?_, fun j hj hj0 => ?_⟩
        · by_cases e : j = k
          · subst e; exact Int.le_refl _
          · have := h2 j (by omega); omega
        · have := h2 j (by omega); omega
      · have ho := hc o (by omega)
        by_cases hlt : c k + row k < (bestK c row k).1
        · rw [if_pos (.inr hlt)]
          refine .inr ⟨k, rfl, by omega, by omega, rfl, fun j hj hj0 => ?_, fun j hj hj0 => ?_⟩
          · by_cases e : j = k
            · subst e; exact Int.le_refl _
            · have := h5 j (by omega) hj0; simp only; omega
          · have := h5 j (by omega) hj0; simp only; omega
        · rw [if_neg (by intro h; omega)]
          refine .inr ⟨o, h1, by omega, h3, h4, fun j hj hj0 => ?_, h6⟩
          by_cases e : j = k
          · subst e; omega
          · exact h5 j (by omega) hj0
end
end Go.Proofs.YtcbmbhghmfehpaaGreat
namespace Go.Proofs.YtcbmbhghmfehpaaGreat
section
variable {n m : Nat} {par own : Nat → Int} {cost : Nat → Nat → Int}
def uF (n : Nat) (par : Nat → Int) : Nat → Nat → Int
  | 0, _ => 0
  | d + 1, i => sumN (fun c => if i < c ∧ par c = i then uF n par d c + 1000 else 0) n
def ub (n : Nat) (par : Nat → Int) (i : Nat) : Int := uF n par n i
theorem uF_fuel : ∀ {d e i : Nat}, n ≤ i + d → n ≤ i + e → i < n → uF n par d i = uF n par e i
  | 0, _, _, h, _, hi => by omega
  | _, 0, _, _, h, hi => by omega
  | d + 1, e + 1, i, h1, h2, hi => by
    show sumN _ _ = sumN _ _
    refine sumN_congr fun c hc => ?_
    split
    · rename_i hk
      rw [uF_fuel (d := d) (e := e) (by omega) (by omega) hc]
    · rfl
theorem ub_eq {i : Nat} (hi : i < n) : ub n par i = sumN (fun c => if i < c ∧ par c = i then ub n par c + 1000 else 0) n := by
  unfold ub
  obtain ⟨d, rfl⟩ : ∃ d, n = d + 1 := ⟨n - 1, by omega⟩
  show sumN _ _ = _
  refine sumN_congr fun c hc => ?_
  split
  · rename_i hk
    rw [uF_fuel (d := d) (e := d + 1) (by omega) (by omega) hc]
  · rfl
theorem uF_nonneg (d : Nat) : ∀ i : Nat, 0 ≤ uF n par d i := by
  induction d with
  | zero => intro i; exact Int.le_refl _
  | succ d ih =>
    intro i
    exact sumN_nonneg fun c _ => by
      have := ih c
      split <;> omega
theorem ub_nonneg (i : Nat) : 0 ≤ ub n par i := uF_nonneg _ _
def pot (n : Nat) (par : Nat → Int) (k : Nat) : Int := sumN (fun c => if k ≤ c ∧ par c < k then ub n par c + 1000 else 0) n
theorem pot_step (h : ∀ c, c < n → par c < c) {k : Nat} (hk : k < n) : pot n par k = pot n par (k + 1) + 1000 := by
  have h1 : pot n par k = sumN (fun c => if k + 1 ≤ c ∧ par c < k then ub n par c + 1000 else 0) n + sumN (fun c => if c = k then ub n par k + 1000 else 0) n := by
    rw [← sumN_add]; unfold pot
    refine sumN_congr fun c hc => ?_
    by_cases e : c = k
    · subst e
      have := h c hc
      rw [if_pos ⟨Nat.le_refl _, this⟩, if_neg (by omega), if_pos rfl]; omega
    · by_cases h2 : k ≤ c ∧ par c < k
      · rw [if_pos h2, if_pos ⟨by omega, h2.2⟩, if_neg e]; omega
      · rw [if_neg h2, if_neg (fun h3 => h2 ⟨by omega, h3.2⟩), if_neg e]; rfl
  have h2 : pot n par (k + 1) = sumN (fun c => if k + 1 ≤ c ∧ par c < k then ub n par c + 1000 else 0) n + sumN (fun c => if k < c ∧ par c = k then ub n par c + 1000 else 0) n := by
    rw [← sumN_add]; unfold pot
    refine sumN_congr fun c _ => ?_
    by_cases h3 : k + 1 ≤ c
    · by_cases h4 : par c = k
      · rw [if_pos ⟨h3, by omega⟩, if_neg (by omega), if_pos ⟨h3, h4⟩]; omega
      · by_cases h5 : par c < k
        · rw [if_pos ⟨h3, by omega⟩, if_pos ⟨h3, h5⟩, if_neg (fun h => h4 h.2)]; omega
        · rw [if_neg (by omega), if_neg (fun h => h5 h.2), if_neg (fun h => h4 h.2)]; rfl
    · rw [if_neg (fun h => h3 h.1), if_neg (fun h => h3 h.1), if_neg (fun h => h3 (by omega))]; rfl
  rw [sumN_one, if_pos hk] at h1
  rw [← ub_eq hk] at h2
  omega
theorem pot_le (h : ∀ c, c < n → par c < c) : ∀ {d k : Nat}, k + d = n → pot n par k = 1000 * (d : Int)
  | 0, k, e => by
    have : pot n par k = sumN (fun _ => 0) n := sumN_congr fun c hc => by rw [if_neg (by omega)]
    rw [this, sumN_zero]; rfl
  | d + 1, k, e => by
    rw [pot_step h (by omega), pot_le h (d := d) (k := k + 1) (by omega)]; omega
theorem sumN_ge {f : Nat → Int} : ∀ {n k : Nat}, (∀ c, c < n → 0 ≤ f c) → k < n → f k ≤ sumN f n
  | 0, _, _, h => absurd h (Nat.not_lt_zero _)
  | n + 1, k, h, hk => by
    rw [sumN_succ]
    by_cases e : k = n
    · subst e; have := sumN_nonneg (f := f) (n := k) fun c hc => h c (by omega); omega
    · have := sumN_ge (f := f) (n := n) (k := k) (fun c hc => h c (by omega)) (by omega)
      have := h n (by omega); omega
theorem ub_le (h : ∀ c, c < n → par c < c) {k : Nat} (hk : k < n) : ub n par k + 1000 ≤ 1000 * ((n - k : Nat) : Int) := by
  have h1 := pot_le h (d := n - k) (k := k) (by omega)
  have h2 := sumN_ge (f := fun c => if k ≤ c ∧ par c < k then ub n par c + 1000 else 0) (n := n) (k := k) (fun c _ => by
    have := ub_nonneg (n := n) (par := par) c
    show 0 ≤ (if k ≤ c ∧ par c < k then ub n par c + 1000 else 0)
    split <;> omega) hk
  rw [if_pos ⟨Nat.le_refl _, h k hk⟩] at h2
  unfold pot at h1
  omega
theorem tab_bd (F : Fine n m par own cost) : ∀ {d i : Nat}, n ≤ i + d → i < n →
    (∀ s, s < m → -1 ≤ tab n m par own cost i s ∧ tab n m par own cost i s ≤ ub n par i) ∧ (∃ s, s < m ∧ 0 ≤ tab n m par own cost i s) ∧
    (own i = -1 → ∀ s, s < m → 0 ≤ tab n m par own cost i s) ∧ (0 ≤ own i → ∀ s, s < m → tab n m par own cost i s = if own i = s then 0 else -1)
  | 0, i, h, hi => by omega
  | d + 1, i, h, hi => by
    have hkid : ∀ s, s < m → ∀ c, c < n → i < c → 0 ≤ (bestK (cost s) (tab n m par own cost c) m).1 ∧ (bestK (cost s) (tab n m par own cost c) m).1 ≤ ub n par c + 1000 := by
      intro s hs c hc hic
      obtain ⟨h1, ⟨j, hj, hj0⟩, _⟩ := tab_bd F (d := d) (i := c) (by omega) hc
      rcases bestK_spec (c := cost s) (row := tab n m par own cost c) (A := ub n par c) (ub_nonneg _) (k := m) (fun j hj => F.cost1 s j hs hj) (fun j hj => (h1 j hj).2) with ⟨_, h3⟩ | ⟨o, _, ho, ho0, h4, h5, _⟩
      · have := h3 j hj; omega
      · have := h5 j hj hj0
        have := (h1 j hj).2
        have := F.cost1 s j hs hj
        have := F.cost1 s o hs ho
        constructor <;> omega
    have hsum : ∀ s, s < m → 0 ≤ sumN (fun c => if i < c ∧ par c = i then (bestK (cost s) (tab n m par own cost c) m).1 else 0) n ∧ sumN (fun c => if i < c ∧ par c = i then (bestK (cost s) (tab n m par own cost c) m).1 else 0) n ≤ ub n par i := by
      intro s hs
      constructor
      · exact sumN_nonneg fun c hc => by
          split
          · rename_i h2; exact (hkid s hs c hc h2.1).1
          · exact Int.le_refl _
      · rw [ub_eq hi]
        exact sumN_mono fun c hc => by
          split
          · rename_i h2; exact (hkid s hs c hc h2.1).2
          · exact Int.le_refl _
    have heq : ∀ s, tab n m par own cost i s = (if 0 ≤ own i ∧ own i ≠ s then -1 else 0) + sumN (fun c => if i < c ∧ par c = i then (bestK (cost s) (tab n m par own cost c) m).1 else 0) n := fun s => tab_eq hi s
    have hub := ub_nonneg (n := n) (par := par) i
    have ho := F.own1 i hi
    refine ⟨fun s hs => ?_, ?_, fun h0 s hs => ?_, fun h0 s hs => ?_⟩
    · rw [heq s]; have := hsum s hs; split <;> omega
    · by_cases h0 : 0 ≤ own i
      · refine ⟨(own i).toNat, by omega, ?_⟩
        rw [heq, if_neg (by omega)]; have := hsum (own i).toNat (by omega); omega
      · refine ⟨0, F.m1, ?_⟩
        rw [heq, if_neg (by omega)]; have := hsum 0 F.m1; omega
    · rw [heq, if_neg (by omega)]; have := hsum s hs; omega
    · have hz : sumN (fun c => if i < c ∧ par c = i then (bestK (cost s) (tab n m par own cost c) m).1 else 0) n = 0 := by
        refine (sumN_congr (g := fun _ => 0) fun c hc => ?_).trans (sumN_zero n)
        rw [if_neg]; intro h2; have := F.leaf i c hc h2.1 h2.2; omega
      rw [heq, hz]
      by_cases e : own i = s
      · rw [if_neg (fun h => h.2 e), if_pos e]; rfl
      · rw [if_pos ⟨h0, e⟩, if_neg e]; rfl
end
end Go.Proofs.YtcbmbhghmfehpaaGreat
namespace Go.Proofs.YtcbmbhghmfehpaaGreat
def leafIx (ns : List ByteArray) (i : Nat) : Int := firstIx (fun j => decide ((i : Int) = gi (leavesL ns) j)) (leavesL ns).length
def ownS (ns : List ByteArray) (st : List Int) (i : Nat) : Int := if 0 ≤ leafIx ns i then gi st (leafIx ns i).toNat else -1
def costF (cs : List (List Int)) (a b : Nat) : Int := gi (gl cs a) b
def tabT (t : Tre) (st : List Int) (cs : List (List Int)) (i s : Nat) : Int := tab t.ps.length cs.length (gi t.ps) (ownS t.ns st) (costF cs) i s
def tabRow (t : Tre) (st : List Int) (cs : List (List Int)) (i : Nat) : List Int := (List.range cs.length).map (tabT t st cs i)
theorem tabRow_len (t : Tre) (st : List Int) (cs : List (List Int)) (i : Nat) : (tabRow t st cs i).length = cs.length := by simp [tabRow]
theorem gi_tabRow (t : Tre) (st : List Int) (cs : List (List Int)) (i : Nat) {s : Nat} (hs : s < cs.length) : gi (tabRow t st cs i) s = tabT t st cs i s := by
  simp [gi, tabRow, hs]
def addK (t : Tre) (st : List Int) (cs : List (List Int)) (s c : Nat) : Int := (bestK (gi (gl cs s)) (gi (tabRow t st cs c)) (tabRow t st cs c).length).1
theorem addK_eq (t : Tre) (st : List Int) (cs : List (List Int)) (s c : Nat) : addK t st cs s c = (bestK (costF cs s) (tabT t st cs c) cs.length).1 := by
  unfold addK; rw [tabRow_len]
  have h : bestK (gi (gl cs s)) (gi (tabRow t st cs c)) cs.length = bestK (costF cs s) (tabT t st cs c) cs.length := bestK_congr (fun _ _ => rfl) fun j hj => gi_tabRow t st cs c hj
  rw [h]
def baseT (t : Tre) (st : List Int) (i s : Nat) : Int := if 0 ≤ ownS t.ns st i ∧ ownS t.ns st i ≠ s then -1 else 0
theorem tabT_eq (t : Tre) (st : List Int) (cs : List (List Int)) {i : Nat} (hi : i < t.ps.length) (s : Nat) : tabT t st cs i s = baseT t st i s + ((kidsL t.ps i).map (addK t st cs s)).sum := by
  unfold tabT; rw [tab_eq hi]; unfold rowF kidsL
  rw [kidsK_sum]
  show baseT t st i s + _ = _
  congr 1
  exact sumN_congr fun c _ => by
    split
    · exact (addK_eq t st cs s c).symm
    · rfl
end Go.Proofs.YtcbmbhghmfehpaaGreat
namespace Go.Proofs.YtcbmbhghmfehpaaGreat
theorem parErr_zero {t : Tre} {st : List Int} {cs : List (List Int)} (h : parErr t st cs = 0) : treeErr t = 0 ∧ matErr cs = 0 ∧ knownErr st (leavesL t.ns).length (-1) cs.length = 0 := by
  unfold parErr at h
  by_cases h1 : treeErr t = 0
  · rw [if_neg (fun e => e h1)] at h
    by_cases h2 : matErr cs = 0
    · rw [if_neg (fun e => e h2)] at h; exact ⟨h1, h2, h⟩
    · rw [if_pos h2] at h; exact absurd h h2
  · rw [if_pos h1] at h; cases h
theorem treeErr_zero {t : Tre} (h : treeErr t = 0) : 0 < t.ps.length ∧ t.ps.length ≤ 64 ∧ t.ns.length = t.ps.length ∧ pOkB t.ps = true ∧ ∀ i, i < t.ps.length → nErr t.ps t.ns i = 0 := by
  unfold treeErr at h
  split at h
  · cases h
  · split at h
    · cases h
    · split at h
      · cases h
      · split at h
        · exact ⟨by omega, by omega, by omega, ‹_›, firstNZ_eq_zero h⟩
        · cases h
theorem matErr_zero {cs : List (List Int)} (h : matErr cs = 0) : 0 < cs.length ∧ cs.length ≤ 16 ∧ (∀ a, a < cs.length → (gl cs a).length = cs.length) ∧ (∀ a k, 0 ≤ gi (gl cs a) k ∧ gi (gl cs a) k ≤ 1000) ∧ ∀ a, a < cs.length → gi (gl cs a) a = 0 := by
  unfold matErr at h
  split at h
  · cases h
  · split at h
    · cases h
    · split at h
      · cases h
      · rename_i hl
        split at h
        · cases h
        · rename_i hm
          have hl2 : lenBad cs = false := by simpa using hl
          have hm2 : matBadK cs cs.length = false := by simpa using hm
          have hlen : ∀ a, a < cs.length → (gl cs a).length = cs.length := fun a ha => by have := any_false hl2 ha; simpa using this
          have hbad : ∀ a b, a < cs.length → b < (gl cs a).length → badc a b (gi (gl cs a) b) = false := fun a b ha hb => any_false (any_false hm2 ha) hb
          refine ⟨by omega, by omega, hlen, fun a k => ?_, fun a ha => ?_⟩
          · by_cases ha : a < cs.length
            · by_cases hk : k < (gl cs a).length
              · have := hbad a k ha hk
                simp [badc] at this; omega
              · have : gi (gl cs a) k = 0 := by simp [gi, List.getElem?_eq_none (by omega : (gl cs a).length ≤ k)]
                omega
            · have : gl cs a = [] := by simp [gl, List.getElem?_eq_none (by omega : cs.length ≤ a)]
              rw [this]; simp [gi]
          · have := hbad a a ha (by rw [hlen a ha]; exact ha)
            simp [badc] at this; exact this.2
theorem mem_leavesL {ns : List ByteArray} {x : Int} : x ∈ leavesL ns ↔ ∃ i : Nat, x = i ∧ i < ns.length ∧ (gs ns i).size ≠ 0 := by
  unfold leavesL
  rw [List.mem_map]
  constructor
  · rintro ⟨i, hi, rfl⟩
    rw [List.mem_filter, List.mem_range] at hi
    exact ⟨i, rfl, hi.1, by simpa using hi.2⟩
  · rintro ⟨i, rfl, h1, h2⟩
    exact ⟨i, by rw [List.mem_filter, List.mem_range]; exact ⟨h1, by simpa using h2⟩, rfl⟩
theorem leavesL_len (ns : List ByteArray) : (leavesL ns).length ≤ ns.length := by
  unfold leavesL; rw [List.length_map]; exact Nat.le_trans (List.length_filter_le _ _) (by simp)
theorem gi_mem {l : List Int} {k : Nat} (h : k < l.length) : gi l k ∈ l := by simp [gi, h]
theorem leafIx_lt {ns : List ByteArray} {i : Nat} (h : 0 ≤ leafIx ns i) : (leafIx ns i).toNat < (leavesL ns).length ∧ gi (leavesL ns) (leafIx ns i).toNat = i := by
  unfold leafIx at h ⊢
  generalize hx : firstIx (fun j => decide ((i : Int) = gi (leavesL ns) j)) (leavesL ns).length = x at *
  obtain ⟨k, rfl⟩ := Int.eq_ofNat_of_zero_le h
  have := firstIx_spec hx
  rw [Int.toNat_natCast]
  exact ⟨this.1, by have := this.2.1; simpa using (of_decide_eq_true this).symm⟩
structure Valid (t : Tre) (st : List Int) (cs : List (List Int)) : Prop where
  tree : treeErr t = 0
  mat : matErr cs = 0
  len : st.length = (leavesL t.ns).length
  good : stBad st (-1) cs.length = false
theorem parErr_valid {t : Tre} {st : List Int} {cs : List (List Int)} (h : parErr t st cs = 0) : Valid t st cs := by
  obtain ⟨h1, h2, h3⟩ := parErr_zero h
  unfold knownErr at h3
  split at h3
  · cases h3
  · split at h3
    · cases h3
    · exact ⟨h1, h2, by omega, by simpa using ‹¬ stBad st (-1) cs.length = true›⟩
theorem Valid.par {t : Tre} {st : List Int} {cs : List (List Int)} (h : Valid t st cs) : parErr t st cs = 0 := by
  unfold parErr knownErr; rw [if_neg (fun e => e h.tree), if_neg (fun e => e h.mat), if_neg (fun e => e h.len), h.good]; rfl
theorem par_ok {ps : List Int} (h : pOkB ps = true) {c : Nat} (hc : c < ps.length) : gi ps c < c ∧ (0 < c → 0 ≤ gi ps c) ∧ (c = 0 → gi ps c = -1) := by
  have := pOkB_at h hc
  unfold okp at this
  split at this
  · simp at this; omega
  · simp at this; omega
theorem inner_empty {t : Tre} (h : treeErr t = 0) {i c : Nat} (hc : c < t.ps.length) (hi : i < c) (hp : gi t.ps c = i) : (gs t.ns i).size = 0 := by
  obtain ⟨_, _, _, hok, hn⟩ := treeErr_zero h
  have hin : isIn t.ps i = true := List.any_eq_true.2 ⟨c, List.mem_range.2 hc, by simp [hp]; omega⟩
  have := hn i (by omega)
  unfold nErr at this
  rw [if_pos hin] at this
  by_cases e : (gs t.ns i).size = 0
  · exact e
  · rw [if_neg e] at this; cases this
theorem leaf_named {t : Tre} (h : treeErr t = 0) {i : Nat} (hi : i < t.ps.length) (hin : isIn t.ps i = false) : namedB (gs t.ns i).data.toList = true ∧ seenK t.ns i = false := by
  obtain ⟨_, _, _, hok, hn⟩ := treeErr_zero h
  have := hn i hi
  unfold nErr at this
  rw [hin] at this
  cases h1 : namedB (gs t.ns i).data.toList
  · rw [h1] at this; cases this
  · cases h2 : seenK t.ns i
    · exact ⟨rfl, rfl⟩
    · rw [h1, h2] at this; cases this
theorem Valid.fine {t : Tre} {st : List Int} {cs : List (List Int)} (h : Valid t st cs) : Fine t.ps.length cs.length (gi t.ps) (ownS t.ns st) (costF cs) := by
  obtain ⟨h1, h2, h3, hok, hn⟩ := treeErr_zero h.tree
  obtain ⟨m1, m2, m3, m4, m5⟩ := matErr_zero h.mat
  refine ⟨m1, fun c h0 hc => (par_ok hok hc).2.1 h0, fun c hc => (par_ok hok hc).1, fun i _ => ?_, fun a b _ _ => m4 a b, fun i c hc hic hp => ?_⟩
  · unfold ownS
    split
    · rename_i h0
      have hl := leafIx_lt h0
      have hb := any_false h.good (k := (leafIx t.ns i).toNat) (by rw [h.len]; exact hl.1)
      simp at hb; omega
    · omega
  · unfold ownS
    rw [if_neg]; intro h0
    have hl := leafIx_lt h0
    have hm : (i : Int) ∈ leavesL t.ns := by rw [← hl.2]; exact gi_mem hl.1
    obtain ⟨j, e, _, hne⟩ := mem_leavesL.1 hm
    obtain rfl : i = j := by omega
    exact hne (inner_empty h.tree hc hic hp)
theorem Valid.tb {t : Tre} {st : List Int} {cs : List (List Int)} (h : Valid t st cs) (j s : Nat) (hj : j < t.ps.length) : -1 ≤ gi (tabRow t st cs j) s ∧ gi (tabRow t st cs j) s ≤ 100000 := by
  by_cases hs : s < cs.length
  · rw [gi_tabRow t st cs j hs]
    have h1 := (tab_bd h.fine (d := t.ps.length) (i := j) (by omega) hj).1 s hs
    have h2 := ub_le (par := gi t.ps) h.fine.parlt hj
    obtain ⟨_, h3, _⟩ := treeErr_zero h.tree
    unfold tabT
    constructor <;> omega
  · have : gi (tabRow t st cs j) s = 0 := by simp [gi, tabRow, hs]
    omega
def scoreN (t : Tre) (st : List Int) (cs : List (List Int)) : Int := if parErr t st cs = 0 then (bestK (fun _ => 0) (gi (tabRow t st cs 0)) cs.length).1 else 0
end Go.Proofs.YtcbmbhghmfehpaaGreat
namespace Go.Proofs.YtcbmbhghmfehpaaGreat
def asgAt (t : Tre) (st : List Int) (cs : List (List Int)) (l : List Int) (k : Nat) : Int :=
  (bestK (if k = 0 then fun _ => 0 else gi (gl cs (gi l (gi t.ps k).toNat).toNat)) (gi (tabRow t st cs k)) cs.length).2
def asgK (t : Tre) (st : List Int) (cs : List (List Int)) : Nat → List Int
  | 0 => []
  | k + 1 => asgK t st cs k ++ [asgAt t st cs (asgK t st cs k) k]
def asgL (t : Tre) (st : List Int) (cs : List (List Int)) : List Int := asgK t st cs t.ps.length
theorem asgK_len (t : Tre) (st : List Int) (cs : List (List Int)) : ∀ k, (asgK t st cs k).length = k
  | 0 => rfl
  | k + 1 => by rw [asgK, List.length_append, asgK_len t st cs k]; rfl
theorem gi_append (l : List Int) (x : Int) (j : Nat) : gi (l ++ [x]) j = if j < l.length then gi l j else if j = l.length then x else 0 := by
  unfold gi
  by_cases h : j < l.length
  · rw [if_pos h]; simp [List.getElem?_append, h]
  · rw [if_neg h]
    by_cases e : j = l.length
    · rw [if_pos e]; simp [e]
    · rw [if_neg e]; simp; rw [List.getElem?_eq_none (by simp; omega)]; rfl
theorem gi_asgK_old (t : Tre) (st : List Int) (cs : List (List Int)) {k j : Nat} (h : j < k) : gi (asgK t st cs (k + 1)) j = gi (asgK t st cs k) j := by
  rw [asgK, gi_append, asgK_len, if_pos h]
theorem gi_asgK_new (t : Tre) (st : List Int) (cs : List (List Int)) (k : Nat) : gi (asgK t st cs (k + 1)) k = asgAt t st cs (asgK t st cs k) k := by
  rw [asgK, gi_append, asgK_len, if_neg (by omega), if_pos rfl]
theorem gi_asgK_le (t : Tre) (st : List Int) (cs : List (List Int)) {j : Nat} : ∀ {k n : Nat}, j < k → k ≤ n → gi (asgK t st cs n) j = gi (asgK t st cs k) j
  | k, 0, h, h2 => by omega
  | k, n + 1, h, h2 => by
    by_cases e : k = n + 1
    · rw [e]
    · rw [gi_asgK_old t st cs (by omega), gi_asgK_le t st cs h (by omega)]
section
variable {t : Tre} {st : List Int} {cs : List (List Int)}
theorem best_ok (hv : Valid t st cs) {c : Nat → Int} (hc : ∀ j, j < cs.length → 0 ≤ c j ∧ c j ≤ 1000) {k : Nat} (hk : k < t.ps.length) :
    ∃ o : Nat, (bestK c (gi (tabRow t st cs k)) cs.length).2 = o ∧ o < cs.length ∧ 0 ≤ gi (tabRow t st cs k) o ∧ (bestK c (gi (tabRow t st cs k)) cs.length).1 = c o + gi (tabRow t st cs k) o ∧
      (∀ j, j < cs.length → 0 ≤ gi (tabRow t st cs k) j → (bestK c (gi (tabRow t st cs k)) cs.length).1 ≤ c j + gi (tabRow t st cs k) j) ∧
      (∀ j, j < o → 0 ≤ gi (tabRow t st cs k) j → (bestK c (gi (tabRow t st cs k)) cs.length).1 < c j + gi (tabRow t st cs k) j) := by
  obtain ⟨_, ⟨s, hs, hs0⟩, _⟩ := tab_bd hv.fine (d := t.ps.length) (i := k) (by omega) hk
  have hs1 : 0 ≤ gi (tabRow t st cs k) s := by rw [gi_tabRow _ _ _ _ hs]; exact hs0
  rcases bestK_spec (c := c) (row := gi (tabRow t st cs k)) (A := 100000) (by omega) (k := cs.length) hc (fun j _ => (hv.tb k j hk).2) with ⟨_, h⟩ | h
  · have := h s hs; omega
  · exact h
theorem costF_bd (hv : Valid t st cs) (a : Nat) : ∀ j, j < cs.length → 0 ≤ gi (gl cs a) j ∧ gi (gl cs a) j ≤ 1000 := fun j _ => (matErr_zero hv.mat).2.2.2.1 a j
theorem asgAt_ok (hv : Valid t st cs) (l : List Int) {k : Nat} (hk : k < t.ps.length) : ∃ o : Nat, asgAt t st cs l k = o ∧ o < cs.length ∧ 0 ≤ gi (tabRow t st cs k) o := by
  unfold asgAt
  obtain ⟨o, h1, h2, h3, _⟩ := best_ok hv (c := if k = 0 then fun _ => 0 else gi (gl cs (gi l (gi t.ps k).toNat).toNat)) (fun j hj => by
    by_cases e : k = 0
    · simp [e]
    · simp only [e, if_false]; exact costF_bd hv _ j hj) hk
  exact ⟨o, h1, h2, h3⟩
theorem asgK_ok (hv : Valid t st cs) : ∀ {k j : Nat}, k ≤ t.ps.length → j < k → ∃ o : Nat, gi (asgK t st cs k) j = o ∧ o < cs.length
  | 0, j, _, h => by omega
  | k + 1, j, hk, h => by
    by_cases e : j = k
    · subst e; rw [gi_asgK_new]
      obtain ⟨o, h1, h2, _⟩ := asgAt_ok hv (asgK t st cs j) (k := j) (by omega)
      exact ⟨o, h1, h2⟩
    · rw [gi_asgK_old _ _ _ (by omega)]; exact asgK_ok hv (by omega) (by omega)
end
end Go.Proofs.YtcbmbhghmfehpaaGreat
namespace Go.Proofs.YtcbmbhghmfehpaaGreat
def edgeC (cs : List (List Int)) (all : List Int) (node child : Nat) : Int := costF cs (gi all node).toNat (gi all child).toNat
def nodeC (t : Tre) (cs : List (List Int)) (all : List Int) (node : Nat) : Int := ((kidsL t.ps node).map (edgeC cs all node)).sum
def costK (t : Tre) (cs : List (List Int)) (all : List Int) (k : Nat) : Int := sumN (nodeC t cs all) k
def costL (t : Tre) (cs : List (List Int)) (all : List Int) : Int := costK t cs all t.ps.length
def AllOk (n m : Nat) (all : List Int) : Prop := all.length = n ∧ ∀ k, k < n → 0 ≤ gi all k ∧ gi all k < m
end Go.Proofs.YtcbmbhghmfehpaaGreat
namespace Go.Proofs.YtcbmbhghmfehpaaGreat
section
variable {n m : Nat} {par own own' : Nat → Int} {cost : Nat → Nat → Int}
theorem tab_le_far (F : Fine n m par own cost) {c : Nat} (hc : c < n) {j : Nat} (hj : j < m) : tab n m par own cost c j ≤ 1000 * (n : Int) := by
  have h1 := ((tab_bd F (d := n) (i := c) (by omega) hc).1 j hj).2
  have h2 := ub_le (par := par) F.parlt hc
  have : ((n - c : Nat) : Int) ≤ (n : Int) := by omega
  omega
def psi (n : Nat) (par : Nat → Int) (T : Nat → Int) (k : Nat) : Int := sumN (fun c => if k ≤ c ∧ par c < k then T c else 0) n
theorem psi_step (h : ∀ c, c < n → par c < c) (T : Nat → Int) {k : Nat} (hk : k < n) : psi n par T k + sumN (fun c => if k < c ∧ par c = k then T c else 0) n = T k + psi n par T (k + 1) := by
  have h1 : psi n par T k = sumN (fun c => if k + 1 ≤ c ∧ par c < k then T c else 0) n + sumN (fun c => if c = k then T k else 0) n := by
    rw [← sumN_add]; unfold psi
    refine sumN_congr fun c hc => ?_
    by_cases e : c = k
    · subst e
      have := h c hc
      rw [if_pos ⟨Nat.le_refl _, this⟩, if_neg (by omega), if_pos rfl]; omega
    · by_cases h2 : k ≤ c ∧ par c < k
      · rw [if_pos h2, if_pos ⟨by omega, h2.2⟩, if_neg e]; omega
      · rw [if_neg h2, if_neg (fun h3 => h2 ⟨by omega, h3.2⟩), if_neg e]; rfl
  have h2 : psi n par T (k + 1) = sumN (fun c => if k + 1 ≤ c ∧ par c < k then T c else 0) n + sumN (fun c => if k < c ∧ par c = k then T c else 0) n := by
    rw [← sumN_add]; unfold psi
    refine sumN_congr fun c _ => ?_
    by_cases h3 : k + 1 ≤ c
    · by_cases h4 : par c = k
      · rw [if_pos ⟨h3, by omega⟩, if_neg (by omega), if_pos ⟨h3, h4⟩]; omega
      · by_cases h5 : par c < k
        · rw [if_pos ⟨h3, by omega⟩, if_pos ⟨h3, h5⟩, if_neg (fun h => h4 h.2)]; omega
        · rw [if_neg (by omega), if_neg (fun h => h5 h.2), if_neg (fun h => h4 h.2)]; rfl
    · rw [if_neg (fun h => h3 h.1), if_neg (fun h => h3 h.1), if_neg (fun h => h3 (by omega))]; rfl
  rw [sumN_one, if_pos hk] at h1
  omega
theorem psi_end (T : Nat → Int) : psi n par T n = 0 := by
  unfold psi
  refine (sumN_congr (g := fun _ => 0) fun c hc => ?_).trans (sumN_zero n)
  rw [if_neg (by omega)]
theorem psi_zero (h0 : par 0 < 0) (h1 : ∀ c, 0 < c → c < n → 0 ≤ par c) (hn : 0 < n) (T : Nat → Int) : psi n par T 0 = T 0 := by
  unfold psi
  have : sumN (fun c => if 0 ≤ c ∧ par c < (0 : Nat) then T c else 0) n = sumN (fun c => if c = 0 then T 0 else 0) n := sumN_congr fun c hc => by
    by_cases e : c = 0
    · subst e; rw [if_pos ⟨Nat.le_refl _, h0⟩, if_pos rfl]
    · have := h1 c (by omega) hc
      rw [if_neg (by simp; omega), if_neg e]
  rw [this, sumN_one, if_pos hn]
theorem whole_le (h : ∀ c, c < n → par c < c) (h0 : par 0 < 0) (h1 : ∀ c, 0 < c → c < n → 0 ≤ par c) (hn : 0 < n) {T N : Nat → Int}
    (hT : ∀ k, k < n → T k ≤ N k + sumN (fun c => if k < c ∧ par c = k then T c else 0) n) : T 0 ≤ sumN N n := by
  have hk : ∀ k, k ≤ n → psi n par T 0 ≤ sumN N k + psi n par T k := fun k => by
    induction k with
    | zero => intro _; simp [sumN]
    | succ k ih =>
      intro hk
      have h2 := ih (by omega)
      have h3 := psi_step h T (k := k) (by omega)
      have h4 := hT k (by omega)
      rw [sumN_succ]; omega
  have h2 := hk n (Nat.le_refl _)
  rw [psi_end, psi_zero h0 h1 hn] at h2
  omega
theorem whole_eq (h : ∀ c, c < n → par c < c) (h0 : par 0 < 0) (h1 : ∀ c, 0 < c → c < n → 0 ≤ par c) (hn : 0 < n) {T N : Nat → Int}
    (hT : ∀ k, k < n → T k = N k + sumN (fun c => if k < c ∧ par c = k then T c else 0) n) : T 0 = sumN N n := by
  have hk : ∀ k, k ≤ n → psi n par T 0 = sumN N k + psi n par T k := fun k => by
    induction k with
    | zero => intro _; simp [sumN]
    | succ k ih =>
      intro hk
      have h2 := ih (by omega)
      have h3 := psi_step h T (k := k) (by omega)
      have h4 := hT k (by omega)
      rw [sumN_succ]; omega
  have h2 := hk n (Nat.le_refl _)
  rw [psi_end, psi_zero h0 h1 hn] at h2
  omega
end
end Go.Proofs.YtcbmbhghmfehpaaGreat
namespace Go.Proofs.YtcbmbhghmfehpaaGreat
theorem leaves_lt (ns : List ByteArray) {i j : Nat} (hj : j < (leavesL ns).length) (hij : i < j) : gi (leavesL ns) i < gi (leavesL ns) j := by
  have hp : (leavesL ns).Pairwise (· < ·) := by
    unfold leavesL
    rw [List.pairwise_map]
    refine (List.Pairwise.filter _ List.pairwise_lt_range).imp ?_
    intro a b h; omega
  have h := List.pairwise_iff_getElem.1 hp i j (by omega) hj hij
  have hi : i < (leavesL ns).length := by omega
  simpa [gi, hi, hj] using h
theorem leafIx_of {ns : List ByteArray} {i k : Nat} (hi : i < (leavesL ns).length) (hk : gi (leavesL ns) i = k) : leafIx ns k = i := by
  unfold leafIx
  refine firstIx_at hi (fun j hj => ?_) (by simp [hk])
  have := leaves_lt ns hi hj
  simp; omega
theorem ownS_of {ns : List ByteArray} {st : List Int} {i k : Nat} (hi : i < (leavesL ns).length) (hk : gi (leavesL ns) i = k) : ownS ns st k = gi st i := by
  unfold ownS; rw [leafIx_of hi hk, if_pos (by omega), Int.toNat_natCast]
theorem leaf_nat {ns : List ByteArray} {i : Nat} (hi : i < (leavesL ns).length) : ∃ k : Nat, gi (leavesL ns) i = k ∧ k < ns.length ∧ (gs ns k).size ≠ 0 := by
  obtain ⟨k, e, h1, h2⟩ := mem_leavesL.1 (gi_mem hi)
  exact ⟨k, e, h1, h2⟩
section
variable {t : Tre} {st : List Int} {cs : List (List Int)}
theorem scoreN_eq (h : Valid t st cs) : scoreN t st cs = (bestK (fun _ => 0) (gi (tabRow t st cs 0)) cs.length).1 := by unfold scoreN; rw [if_pos h.par]
theorem score_ok (h : Valid t st cs) : ∃ o : Nat, (bestK (fun _ => 0) (gi (tabRow t st cs 0)) cs.length).2 = o ∧ o < cs.length ∧ 0 ≤ tabT t st cs 0 o ∧ scoreN t st cs = tabT t st cs 0 o ∧
    ∀ j, j < cs.length → 0 ≤ tabT t st cs 0 j → scoreN t st cs ≤ tabT t st cs 0 j := by
  have hp0 := (treeErr_zero h.tree).1
  obtain ⟨o, h1, h2, h3, h4, h5, _⟩ := best_ok h (c := fun _ => 0) (fun _ _ => by omega) hp0
  rw [scoreN_eq h]
  rw [gi_tabRow _ _ _ _ h2] at h3 h4
  refine ⟨o, h1, h2, h3, by rw [h4]; omega, fun j hj hj0 => ?_⟩
  have := h5 j hj (by rw [gi_tabRow _ _ _ _ hj]; exact hj0)
  rw [gi_tabRow _ _ _ _ hj] at this
  omega
theorem root_par (h : Valid t st cs) : gi t.ps 0 < 0 := by
  have := (par_ok (treeErr_zero h.tree).2.2.2.1 (treeErr_zero h.tree).1).2.2 rfl; omega
theorem nodeC_sum (t : Tre) (cs : List (List Int)) (all : List Int) (k : Nat) : nodeC t cs all k = sumN (fun c => if k < c ∧ gi t.ps c = k then edgeC cs all k c else 0) t.ps.length := by
  unfold nodeC kidsL; rw [kidsK_sum]
def FitsB (t : Tre) (st all : List Int) : Prop := ∀ i, i < (leavesL t.ns).length → 0 ≤ gi st i → gi all (gi (leavesL t.ns) i).toNat = gi st i
theorem fits_own {all : List Int} (hf : FitsB t st all) (k : Nat) (h0 : 0 ≤ ownS t.ns st k) : gi all k = ownS t.ns st k := by
  have h1 : 0 ≤ leafIx t.ns k := by
    unfold ownS at h0
    by_cases e : 0 ≤ leafIx t.ns k
    · exact e
    · rw [if_neg e] at h0; omega
  obtain ⟨h2, h3⟩ := leafIx_lt h1
  have h4 := ownS_of (st := st) h2 h3
  rw [h4] at h0 ⊢
  have := hf _ h2 h0
  rw [h3, Int.toNat_natCast] at this; exact this
theorem tab_fits (h : Valid t st cs) {all : List Int} (ha : AllOk t.ps.length cs.length all) (hf : FitsB t st all) {k : Nat} (hk : k < t.ps.length) : 0 ≤ tabT t st cs k (gi all k).toNat := by
  obtain ⟨_, _, h3, h4⟩ := tab_bd h.fine (d := t.ps.length) (i := k) (by omega) hk
  obtain ⟨a1, a2⟩ := ha.2 k hk
  have ho := h.fine.own1 k hk
  unfold tabT
  by_cases h0 : 0 ≤ ownS t.ns st k
  · have h5 := h4 h0 (gi all k).toNat (by omega)
    have h6 := fits_own hf k h0
    rw [h5, if_pos (by omega)]; exact Int.le_refl _
  · exact h3 (by omega) _ (by omega)
theorem score_le (h : Valid t st cs) {all : List Int} (ha : AllOk t.ps.length cs.length all) (hf : FitsB t st all) : scoreN t st cs ≤ costL t cs all := by
  obtain ⟨hp0, _, _, hok, _⟩ := treeErr_zero h.tree
  have F := h.fine
  have hroot := root_par h
  have hw := whole_le (n := t.ps.length) (par := gi t.ps) F.parlt hroot F.par0 hp0 (T := fun k => tabT t st cs k (gi all k).toNat) (N := nodeC t cs all) (fun k hk => by
    obtain ⟨a1, a2⟩ := ha.2 k hk
    have e := tab_eq (m := cs.length) (par := gi t.ps) (own := ownS t.ns st) (cost := costF cs) hk (gi all k).toNat
    unfold rowF at e
    have hbase : ¬ (0 ≤ ownS t.ns st k ∧ ownS t.ns st k ≠ ((gi all k).toNat : Nat)) := fun hh => by
      have := fits_own hf k hh.1; omega
    rw [if_neg hbase] at e
    show tabT t st cs k (gi all k).toNat ≤ _
    have e' : tabT t st cs k (gi all k).toNat = 0 + sumN (fun c => if k < c ∧ gi t.ps c = k then (bestK (costF cs (gi all k).toNat) (tabT t st cs c) cs.length).1 else 0) t.ps.length := e
    rw [e', nodeC_sum, ← sumN_add, Int.zero_add]
    refine sumN_mono fun c hc => ?_
    show (if k < c ∧ gi t.ps c = k then _ else (0 : Int)) ≤ (if k < c ∧ gi t.ps c = k then _ else 0) + (if k < c ∧ gi t.ps c = k then _ else 0)
    split
    · obtain ⟨b1, b2⟩ := ha.2 c hc
      have hT := tab_fits h ha hf hc
      rcases bestK_spec (A := 1000 * (t.ps.length : Int)) (by omega) (c := costF cs (gi all k).toNat) (row := tabT t st cs c) (k := cs.length) (fun j hj => F.cost1 _ j (by omega) hj) (fun j hj => tab_le_far F hc hj) with ⟨_, h3⟩ | ⟨o, _, _, _, _, h5, _⟩
      · have := h3 (gi all c).toNat (by omega); omega
      · have := h5 (gi all c).toNat (by omega) hT
        unfold edgeC; exact this
    · omega)
  obtain ⟨_, _, _, _, _, h6⟩ := score_ok h
  obtain ⟨a1, a2⟩ := ha.2 0 hp0
  have := h6 (gi all 0).toNat (by omega) (tab_fits h ha hf hp0)
  unfold costL costK
  omega
theorem asgL_len (t : Tre) (st : List Int) (cs : List (List Int)) : (asgL t st cs).length = t.ps.length := asgK_len t st cs _
theorem asg_ok (h : Valid t st cs) : AllOk t.ps.length cs.length (asgL t st cs) := by
  refine ⟨asgL_len t st cs, fun k hk => ?_⟩
  obtain ⟨o, h1, h2⟩ := asgK_ok h (k := t.ps.length) (j := k) (Nat.le_refl _) hk
  unfold asgL; rw [h1]; omega
theorem asg_at (h : Valid t st cs) {k : Nat} (hk : k < t.ps.length) : gi (asgL t st cs) k = (bestK (if k = 0 then fun _ => 0 else gi (gl cs (gi (asgL t st cs) (gi t.ps k).toNat).toNat)) (gi (tabRow t st cs k)) cs.length).2 := by
  have h1 : gi (asgL t st cs) k = asgAt t st cs (asgK t st cs k) k := by unfold asgL; rw [gi_asgK_le t st cs (Nat.lt_succ_self k) (by omega), gi_asgK_new]
  rw [h1]; unfold asgAt
  by_cases e : k = 0
  · simp [e]
  · simp only [e, if_false]
    have hp := (par_ok (treeErr_zero h.tree).2.2.2.1 hk)
    have h2 := hp.1
    have h3 := hp.2.1 (by omega)
    have h4 : gi (asgL t st cs) (gi t.ps k).toNat = gi (asgK t st cs k) (gi t.ps k).toNat := by unfold asgL; exact gi_asgK_le t st cs (by omega) (by omega)
    rw [h4]
theorem asg_tab (h : Valid t st cs) {k : Nat} (hk : k < t.ps.length) : 0 ≤ tabT t st cs k (gi (asgL t st cs) k).toNat := by
  obtain ⟨o, h1, h2, h3⟩ := asgAt_ok h (asgK t st cs k) hk
  have h4 : gi (asgL t st cs) k = asgAt t st cs (asgK t st cs k) k := by unfold asgL; rw [gi_asgK_le t st cs (Nat.lt_succ_self k) (by omega), gi_asgK_new]
  rw [gi_tabRow _ _ _ _ h2] at h3
  rw [h4, h1, Int.toNat_natCast]; exact h3
theorem asg_fits (h : Valid t st cs) : FitsB t st (asgL t st cs) := by
  intro i hi h0
  obtain ⟨k, e, hk, _⟩ := leaf_nat hi
  have hkn : k < t.ps.length := by rw [← (treeErr_zero h.tree).2.2.1]; exact hk
  rw [e, Int.toNat_natCast]
  have ho := ownS_of (st := st) hi e
  obtain ⟨_, _, _, h4⟩ := tab_bd h.fine (d := t.ps.length) (i := k) (by omega) hkn
  obtain ⟨a1, a2⟩ := (asg_ok h).2 k hkn
  have h5 := h4 (by rw [ho]; exact h0) (gi (asgL t st cs) k).toNat (by omega)
  have h6 := asg_tab h hkn
  unfold tabT at h6
  rw [h5] at h6
  split at h6
  · rename_i e2; rw [ho] at e2; omega
  · omega
theorem asg_cost (h : Valid t st cs) : costL t cs (asgL t st cs) = scoreN t st cs := by
  obtain ⟨hp0, _, _, hok, _⟩ := treeErr_zero h.tree
  have F := h.fine
  have ha := asg_ok h
  have hw := whole_eq (n := t.ps.length) (par := gi t.ps) F.parlt (root_par h) F.par0 hp0 (T := fun k => tabT t st cs k (gi (asgL t st cs) k).toNat) (N := nodeC t cs (asgL t st cs)) (fun k hk => by
    obtain ⟨a1, a2⟩ := ha.2 k hk
    have e := tab_eq (m := cs.length) (par := gi t.ps) (own := ownS t.ns st) (cost := costF cs) hk (gi (asgL t st cs) k).toNat
    unfold rowF at e
    have hbase : ¬ (0 ≤ ownS t.ns st k ∧ ownS t.ns st k ≠ ((gi (asgL t st cs) k).toNat : Nat)) := fun hh => by
      have := fits_own (asg_fits h) k hh.1; omega
    rw [if_neg hbase] at e
    show tabT t st cs k (gi (asgL t st cs) k).toNat = _
    have e' : tabT t st cs k (gi (asgL t st cs) k).toNat = 0 + sumN (fun c => if k < c ∧ gi t.ps c = k then (bestK (costF cs (gi (asgL t st cs) k).toNat) (tabT t st cs c) cs.length).1 else 0) t.ps.length := e
    rw [e', nodeC_sum, ← sumN_add, Int.zero_add]
    refine sumN_congr fun c hc => ?_
    show (if k < c ∧ gi t.ps c = k then _ else (0 : Int)) = (if k < c ∧ gi t.ps c = k then _ else 0) + (if k < c ∧ gi t.ps c = k then _ else 0)
    split
    · rename_i hkc
      have hat := asg_at h hc
      rw [if_neg (by omega), hkc.2, Int.toNat_natCast] at hat
      obtain ⟨o, h1, h2, h3, h4, _⟩ := best_ok h (c := gi (gl cs (gi (asgL t st cs) k).toNat)) (fun j hj => costF_bd h _ j hj) hc
      rw [h1] at hat
      have hbe : bestK (costF cs (gi (asgL t st cs) k).toNat) (tabT t st cs c) cs.length = bestK (gi (gl cs (gi (asgL t st cs) k).toNat)) (gi (tabRow t st cs c)) cs.length := bestK_congr (fun _ _ => rfl) fun j hj => (gi_tabRow t st cs c hj).symm
      rw [hbe, h4, gi_tabRow _ _ _ _ h2]
      unfold edgeC costF
      rw [hat, Int.toNat_natCast]
    · rfl)
  obtain ⟨o, h1, _, _, h4, _⟩ := score_ok h
  have hat := asg_at h hp0
  rw [if_pos rfl, h1] at hat
  rw [hat, Int.toNat_natCast] at hw
  unfold costL costK
  omega
end
end Go.Proofs.YtcbmbhghmfehpaaGreat
namespace Go.Proofs.YtcbmbhghmfehpaaGreat
end Go.Proofs.YtcbmbhghmfehpaaGreat
namespace Go.Proofs.YtcbmbhghmfehpaaGreat
def setRow (xs : List (List Int)) (k : Nat) (y : List Int) : List (List Int) := xs.set k y
end Go.Proofs.YtcbmbhghmfehpaaGreat
