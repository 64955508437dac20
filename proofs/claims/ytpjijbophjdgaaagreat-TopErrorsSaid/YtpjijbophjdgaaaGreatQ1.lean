/- What the functions of layers 1 and 31 compute, as plain functions on lists. Plain: the leaves of a tree, in order. Plain: the children of a node. Plain: costs and states. Plain: the least numbers, the table. Plain: the table of a tree. Plain: the numbers of the table are not too great. Plain: the rows of the table of a tree, its leaves' states and costs. Plain: what valid arguments are. Plain: the first best assignment. Plain: the cost of an assignment. Plain laws of the table: an unknown leaf, doubled costs, least costs. Plain laws of the score. Plain: an assignment of numbers, made to fit. Plain: what Verify accepts. Contracts of the library that the kit lays: strings.Compare, strings.IndexByte. The contract of slices.SortFunc at nodes: the laying. The contract of slices.Sort at strings: the laying. -/
import Derived.Shelf.Small.Strs
import Derived.Test.YtpjijbophjdgaaaGreatProg
import Derived.Shelf.SlGeneric
import Derived.Shelf.SlSortCmp.NoneTotal
import Derived.Shelf.Lays
import Derived.Shelf.Sort.Plain
import Derived.Ground.NamesProg
namespace Go.Proofs.YtpjijbophjdgaaaGreat
def gi (l : List Int) (k : Nat) : Int := l.getD k 0
def gs (l : List ByteArray) (k : Nat) : ByteArray := l.getD k ByteArray.empty
def gb (l : List Bool) (k : Nat) : Bool := l.getD k false
def gl (l : List (List Int)) (k : Nat) : List Int := l.getD k []
structure Tre where
  ps : List Int
  ns : List ByteArray

theorem loop_eq (bs : ByteArray) : ∀ (n i : Nat) (r : List UInt8), bs.size - i = n → ByteArray.toList.loop bs i r = r.reverse ++ bs.data.toList.drop i := by
  intro n
  induction n with
  | zero =>
    intro i r h
    unfold ByteArray.toList.loop
    rw [if_neg (by omega), List.drop_of_length_le (by simp; omega)]; simp
  | succ n ih =>
    intro i r h
    unfold ByteArray.toList.loop
    have hi : i < bs.size := by omega
    rw [if_pos hi, ih (i + 1) _ (by omega), List.reverse_cons, List.append_assoc]
    congr 1
    rw [List.drop_eq_getElem_cons (i := i) (by simpa using hi), List.singleton_append]
    congr 1
    simp [ByteArray.get!, getElem!_pos, hi]
theorem toList_data (s : ByteArray) : s.toList = s.data.toList := by
  unfold ByteArray.toList; rw [loop_eq s _ 0 [] rfl]; simp
theorem toList_nil (s : ByteArray) : s.toList = [] ↔ s.size = 0 := by
  rw [toList_data, ← List.length_eq_zero_iff]; simp
theorem size_data (s : ByteArray) : s.data.toList.length = s.size := by simp
theorem ba_ext {a b : ByteArray} (h : a.data.toList = b.data.toList) : a = b := by
  cases a; cases b; simpa using h
def isLet (c : Nat) : Bool := (97 ≤ c && c ≤ 122) || (65 ≤ c && c ≤ 90)
def isPun (c : Nat) : Bool := c == 46 || c == 44 || c == 59 || c == 58 || c == 33 || c == 63 || c == 40 || c == 41 || c == 45
def kindL (c : Nat) : Int := if isLet c then 1 else if c = 94 ∨ c = 126 ∨ c = 37 then 2 else if 48 ≤ c ∧ c ≤ 57 then 3 else if c = 39 then 4 else if c = 32 then 6 else if isPun c then 5 else 0
def aln (c : UInt8) : Bool := isLet c.toNat || (48 ≤ c.toNat && c.toNat ≤ 57)
def cntA (l : List UInt8) : Nat := l.countP aln
def isNameB (l : List UInt8) : Bool := 1 ≤ l.length && l.length ≤ 16 && l.all aln
def namedB (l : List UInt8) : Bool := if l.getLast? = some 42 then isNameB l.dropLast && l.length ≤ 16 else isNameB l

def okp (i : Nat) (p : Int) : Bool := if i = 0 then p == -1 else decide (0 ≤ p) && decide (p < i)
def pOkB (ps : List Int) : Bool := (List.range ps.length).all fun i => okp i (gi ps i)
def inK (ps : List Int) (n i : Nat) : Bool := (List.range n).any fun j => decide (0 < j) && gi ps j == (i : Int)
def isIn (ps : List Int) (i : Nat) : Bool := inK ps ps.length i
def seenK (ns : List ByteArray) (i : Nat) : Bool := (List.range i).any fun j => decide (gs ns j = gs ns i)
def nErr (ps : List Int) (ns : List ByteArray) (i : Nat) : Int :=
  if isIn ps i then (if (gs ns i).size = 0 then 0 else 14) else if namedB (gs ns i).data.toList then (if seenK ns i then 7 else 0) else 14
def firstNZ (f : Nat → Int) : Nat → Int
  | 0 => 0
  | n + 1 => if firstNZ f n = 0 then f n else firstNZ f n
def treeErr (t : Tre) : Int :=
  if t.ps.length = 0 then 5 else if 64 < t.ps.length then 4 else if t.ns.length ≠ t.ps.length then 9
  else if pOkB t.ps then firstNZ (nErr t.ps t.ns) t.ps.length else 2
def leavesL (ns : List ByteArray) : List Int := ((List.range ns.length).filter fun i => (gs ns i).size ≠ 0).map fun (i : Nat) => (i : Int)

theorem firstNZ_zero {f : Nat → Int} : ∀ {n : Nat}, (∀ j, j < n → f j = 0) → firstNZ f n = 0
  | 0, _ => rfl
  | n + 1, h => by
    unfold firstNZ
    rw [if_pos (firstNZ_zero fun j hj => h j (by omega))]; exact h n (by omega)
theorem firstNZ_at {f : Nat → Int} {k : Nat} : ∀ {n : Nat}, k < n → (∀ j, j < k → f j = 0) → f k ≠ 0 → firstNZ f n = f k
  | 0, h, _, _ => absurd h (Nat.not_lt_zero _)
  | n + 1, hk, h, hne => by
    unfold firstNZ
    by_cases e : k = n
    · subst e; rw [if_pos (firstNZ_zero h)]
    · rw [firstNZ_at (by omega) h hne, if_neg hne]
theorem firstNZ_eq_zero {f : Nat → Int} : ∀ {n : Nat}, firstNZ f n = 0 → ∀ j, j < n → f j = 0
  | 0, _, j, hj => absurd hj (Nat.not_lt_zero _)
  | n + 1, h, j, hj => by
    unfold firstNZ at h
    split at h
    · rename_i h0
      by_cases e : j = n
      · subst e; exact h
      · exact firstNZ_eq_zero h0 j (by omega)
    · rename_i h0; exact absurd h h0
theorem inK_succ (ps : List Int) (n i : Nat) : inK ps (n + 1) i = (inK ps n i || (decide (0 < n) && gi ps n == (i : Int))) := by
  simp [inK, List.range_succ, List.any_append]
theorem pOkB_bad {ps : List Int} {k : Nat} (hk : k < ps.length) (h : okp k (gi ps k) = false) : pOkB ps = false := by
  rw [Bool.eq_false_iff]; intro e
  have := List.all_eq_true.1 e k (List.mem_range.2 hk)
  simp [h] at this
theorem pOkB_all {ps : List Int} (h : ∀ j, j < ps.length → okp j (gi ps j) = true) : pOkB ps = true :=
  List.all_eq_true.2 fun j hj => h j (List.mem_range.1 hj)
theorem pOkB_at {ps : List Int} (h : pOkB ps = true) {j : Nat} (hj : j < ps.length) : okp j (gi ps j) = true :=
  List.all_eq_true.1 h j (List.mem_range.2 hj)
def firstIx (p : Nat → Bool) : Nat → Int
  | 0 => -1
  | n + 1 => if firstIx p n = -1 then (if p n then (n : Int) else -1) else firstIx p n
theorem firstIx_succ (p : Nat → Bool) (n : Nat) : firstIx p (n + 1) = if firstIx p n = -1 then (if p n then (n : Int) else -1) else firstIx p n := rfl
theorem firstIx_none {p : Nat → Bool} : ∀ {n : Nat}, (∀ j, j < n → p j = false) → firstIx p n = -1
  | 0, _ => rfl
  | n + 1, h => by
    rw [firstIx_succ, if_pos (firstIx_none fun j hj => h j (by omega)), h n (by omega)]; rfl
theorem firstIx_at {p : Nat → Bool} {k : Nat} : ∀ {n : Nat}, k < n → (∀ j, j < k → p j = false) → p k = true → firstIx p n = k
  | 0, h, _, _ => absurd h (Nat.not_lt_zero _)
  | n + 1, hk, h, hp => by
    rw [firstIx_succ]
    by_cases e : k = n
    · subst e; rw [if_pos (firstIx_none h), hp]; rfl
    · rw [firstIx_at (by omega) h hp, if_neg (by omega)]
theorem firstIx_lo (p : Nat → Bool) (n : Nat) : -1 ≤ firstIx p n ∧ firstIx p n < n ∧ (firstIx p n = -1 ∨ 0 ≤ firstIx p n) := by
  induction n with
  | zero => simp [firstIx]
  | succ n ih => rw [firstIx_succ]; split <;> (try split) <;> omega
theorem firstIx_any (p : Nat → Bool) (n : Nat) : decide (0 ≤ firstIx p n) = (List.range n).any p := by
  induction n with
  | zero => simp [firstIx]
  | succ n ih =>
    have hl := firstIx_lo p n
    rw [List.range_succ, List.any_append, ← ih, firstIx_succ]
    by_cases h : firstIx p n = -1
    · rw [if_pos h, h]; cases hp : p n <;> simp [hp]
    · rw [if_neg h]; have : 0 ≤ firstIx p n := by omega
      simp [this]
theorem firstIx_spec {p : Nat → Bool} {n k : Nat} (h : firstIx p n = k) : k < n ∧ p k = true ∧ ∀ j, j < k → p j = false := by
  induction n with
  | zero => simp [firstIx] at h
  | succ n ih =>
    rw [firstIx_succ] at h
    by_cases h1 : firstIx p n = -1
    · rw [if_pos h1] at h
      by_cases hp : p n = true
      · rw [if_pos hp] at h
        obtain rfl : n = k := by omega
        refine ⟨by omega, hp, fun j hj => ?_⟩
        cases hq : p j with
        | false => rfl
        | true =>
          exfalso
          have := firstIx_any p n
          rw [h1] at this
          have h2 : (List.range n).any p = true := List.any_eq_true.2 ⟨j, List.mem_range.2 hj, hq⟩
          rw [h2] at this; simp at this
      · rw [if_neg hp] at h; omega
    · rw [if_neg h1] at h
      have := ih h
      exact ⟨by omega, this.2⟩
end Go.Proofs.YtpjijbophjdgaaaGreat
namespace Go.Proofs.YtpjijbophjdgaaaGreat
def leavesK (ns : List ByteArray) (k : Nat) : List Int := ((List.range k).filter fun i => (gs ns i).size ≠ 0).map fun (i : Nat) => (i : Int)
theorem leavesK_succ (ns : List ByteArray) (k : Nat) : leavesK ns (k + 1) = leavesK ns k ++ (if (gs ns k).size = 0 then [] else [(k : Int)]) := by
  unfold leavesK
  rw [List.range_succ, List.filter_append, List.map_append]
  congr 1
  by_cases h : (gs ns k).size = 0
  · have h2 : decide ((gs ns k).size ≠ 0) = false := by rw [decide_eq_false_iff_not]; exact fun e => e h
    rw [if_pos h]; simp only [List.filter_cons, h2, List.filter_nil]; rfl
  · have h2 : decide ((gs ns k).size ≠ 0) = true := by rw [decide_eq_true_eq]; exact h
    rw [if_neg h]; simp only [List.filter_cons, h2, List.filter_nil]; rfl
theorem leavesK_len (ns : List ByteArray) (k : Nat) : (leavesK ns k).length ≤ k := by
  unfold leavesK; rw [List.length_map]; exact Nat.le_trans (List.length_filter_le _ _) (by simp)
end Go.Proofs.YtpjijbophjdgaaaGreat
namespace Go.Proofs.YtpjijbophjdgaaaGreat
def kidsK (ps : List Int) (n k : Nat) : List Nat := (List.range k).filter fun i => decide (n < i) && gi ps i == (n : Int)
def kidsL (ps : List Int) (n : Nat) : List Nat := kidsK ps n ps.length
theorem kidsK_succ (ps : List Int) (n k : Nat) : kidsK ps n (k + 1) = kidsK ps n k ++ (if n < k ∧ gi ps k = n then [k] else []) := by
  unfold kidsK
  rw [List.range_succ, List.filter_append]
  congr 1
  by_cases h : n < k ∧ gi ps k = n
  · rw [if_pos h]; simp [h.1, h.2]
  · rw [if_neg h]
    have : (decide (n < k) && gi ps k == (n : Int)) = false := by
      rw [Bool.eq_false_iff]; intro e; apply h; simpa using e
    simp [this]
theorem kidsK_len (ps : List Int) (n k : Nat) : (kidsK ps n k).length ≤ k := by
  unfold kidsK; exact Nat.le_trans (List.length_filter_le _ _) (by simp)
theorem mem_kidsL {ps : List Int} {n i : Nat} : i ∈ kidsL ps n ↔ i < ps.length ∧ n < i ∧ gi ps i = n := by
  unfold kidsL kidsK; rw [List.mem_filter, List.mem_range]; simp
theorem kids_isIn {ps : List Int} (h : pOkB ps = true) (n : Nat) : kidsL ps n ≠ [] ↔ isIn ps n = true := by
  constructor
  · intro hne
    obtain ⟨i, hi⟩ := List.exists_mem_of_ne_nil _ hne
    obtain ⟨h1, h2, h3⟩ := mem_kidsL.1 hi
    exact List.any_eq_true.2 ⟨i, List.mem_range.2 h1, by simp [h3]; omega⟩
  · intro hin
    obtain ⟨i, hi, h2⟩ := List.any_eq_true.1 hin
    have hi := List.mem_range.1 hi
    simp at h2
    have := pOkB_at h hi
    unfold okp at this
    rw [if_neg (by omega)] at this
    simp at this
    exact List.ne_nil_of_mem (mem_kidsL.2 ⟨hi, by omega, h2.2⟩)
end Go.Proofs.YtpjijbophjdgaaaGreat
namespace Go.Proofs.YtpjijbophjdgaaaGreat
def stBad (st : List Int) (least most : Int) : Bool := (List.range st.length).any fun k => decide (gi st k < least) || decide (most ≤ gi st k)
def badc (a b : Nat) (c : Int) : Bool := decide (c < 0) || decide (1000 < c) || (decide (a = b) && decide (c ≠ 0))
def rowBad (a : Nat) (row : List Int) (k : Nat) : Bool := (List.range k).any fun b => badc a b (gi row b)
def matBadK (cs : List (List Int)) (k : Nat) : Bool := (List.range k).any fun a => rowBad a (gl cs a) (gl cs a).length
def lenBad (cs : List (List Int)) : Bool := (List.range cs.length).any fun a => decide ((gl cs a).length ≠ cs.length)
def matErr (cs : List (List Int)) : Int := if cs.length = 0 then 5 else if 16 < cs.length then 4 else if lenBad cs then 9 else if matBadK cs cs.length then 2 else 0
theorem any_none {p : Nat → Bool} {n : Nat} (h : ∀ j, j < n → p j = false) : (List.range n).any p = false := by
  rw [Bool.eq_false_iff]; intro e
  obtain ⟨j, hj, hp⟩ := List.any_eq_true.1 e
  rw [h j (List.mem_range.1 hj)] at hp; cases hp
theorem any_at {p : Nat → Bool} {n k : Nat} (hk : k < n) (hp : p k = true) : (List.range n).any p = true := List.any_eq_true.2 ⟨k, List.mem_range.2 hk, hp⟩
theorem any_false {p : Nat → Bool} {n : Nat} (h : (List.range n).any p = false) {k : Nat} (hk : k < n) : p k = false := by
  cases e : p k with
  | false => rfl
  | true => rw [any_at hk e] at h; cases h
end Go.Proofs.YtpjijbophjdgaaaGreat
namespace Go.Proofs.YtpjijbophjdgaaaGreat
def bestK (c row : Nat → Int) : Nat → Int × Int
  | 0 => (-1, 0)
  | k + 1 => if row k < 0 then bestK c row k else if (bestK c row k).1 < 0 ∨ c k + row k < (bestK c row k).1 then (c k + row k, (k : Int)) else bestK c row k
end Go.Proofs.YtpjijbophjdgaaaGreat
namespace Go.Proofs.YtpjijbophjdgaaaGreat
def sumN (f : Nat → Int) : Nat → Int
  | 0 => 0
  | n + 1 => sumN f n + f n
def rowF (n m : Nat) (par own : Nat → Int) (cost : Nat → Nat → Int) (look : Nat → Nat → Int) (i s : Nat) : Int :=
  (if 0 ≤ own i ∧ own i ≠ s then -1 else 0) + sumN (fun c => if i < c ∧ par c = i then (bestK (cost s) (look c) m).1 else 0) n
def tabF (n m : Nat) (par own : Nat → Int) (cost : Nat → Nat → Int) : Nat → Nat → Nat → Int
  | 0 => fun _ _ => 0
  | d + 1 => rowF n m par own cost (tabF n m par own cost d)
def tab (n m : Nat) (par own : Nat → Int) (cost : Nat → Nat → Int) (i s : Nat) : Int := tabF n m par own cost n i s
section
variable {n m : Nat} {par own : Nat → Int} {cost : Nat → Nat → Int}
end
end Go.Proofs.YtpjijbophjdgaaaGreat
namespace Go.Proofs.YtpjijbophjdgaaaGreat
section
variable {n m : Nat} {par own : Nat → Int} {cost : Nat → Nat → Int}
end
end Go.Proofs.YtpjijbophjdgaaaGreat
namespace Go.Proofs.YtpjijbophjdgaaaGreat
def leafIx (ns : List ByteArray) (i : Nat) : Int := firstIx (fun j => decide ((i : Int) = gi (leavesL ns) j)) (leavesL ns).length
def ownS (ns : List ByteArray) (st : List Int) (i : Nat) : Int := if 0 ≤ leafIx ns i then gi st (leafIx ns i).toNat else -1
def costF (cs : List (List Int)) (a b : Nat) : Int := gi (gl cs a) b
def tabT (t : Tre) (st : List Int) (cs : List (List Int)) (i s : Nat) : Int := tab t.ps.length cs.length (gi t.ps) (ownS t.ns st) (costF cs) i s
def tabRow (t : Tre) (st : List Int) (cs : List (List Int)) (i : Nat) : List Int := (List.range cs.length).map (tabT t st cs i)
def addK (t : Tre) (st : List Int) (cs : List (List Int)) (s c : Nat) : Int := (bestK (gi (gl cs s)) (gi (tabRow t st cs c)) (tabRow t st cs c).length).1
def baseT (t : Tre) (st : List Int) (i s : Nat) : Int := if 0 ≤ ownS t.ns st i ∧ ownS t.ns st i ≠ s then -1 else 0
end Go.Proofs.YtpjijbophjdgaaaGreat
namespace Go.Proofs.YtpjijbophjdgaaaGreat
theorem treeErr_zero {t : Tre} (h : treeErr t = 0) : 0 < t.ps.length ∧ t.ps.length ≤ 64 ∧ t.ns.length = t.ps.length ∧ pOkB t.ps = true ∧ ∀ i, i < t.ps.length → nErr t.ps t.ns i = 0 := by
  unfold treeErr at h
  split at h
  · cases h
  · split at h
    · cases h
    · split at h
      · cases h
      · split at h
        · exact ⟨by omega, by omega, by omega, ‹_›, firstNZ_eq_zero h⟩
        · cases h
theorem mem_leavesL {ns : List ByteArray} {x : Int} : x ∈ leavesL ns ↔ ∃ i : Nat, x = i ∧ i < ns.length ∧ (gs ns i).size ≠ 0 := by
  unfold leavesL
  rw [List.mem_map]
  constructor
  · rintro ⟨i, hi, rfl⟩
    rw [List.mem_filter, List.mem_range] at hi
    exact ⟨i, rfl, hi.1, by simpa using hi.2⟩
  · rintro ⟨i, rfl, h1, h2⟩
    exact ⟨i, by rw [List.mem_filter, List.mem_range]; exact ⟨h1, by simpa using h2⟩, rfl⟩
theorem leavesL_len (ns : List ByteArray) : (leavesL ns).length ≤ ns.length := by
  unfold leavesL; rw [List.length_map]; exact Nat.le_trans (List.length_filter_le _ _) (by simp)
theorem gi_mem {l : List Int} {k : Nat} (h : k < l.length) : gi l k ∈ l := by simp [gi, h]
structure Valid (t : Tre) (st : List Int) (cs : List (List Int)) : Prop where
  tree : treeErr t = 0
  mat : matErr cs = 0
  len : st.length = (leavesL t.ns).length
  good : stBad st (-1) cs.length = false
theorem par_ok {ps : List Int} (h : pOkB ps = true) {c : Nat} (hc : c < ps.length) : gi ps c < c ∧ (0 < c → 0 ≤ gi ps c) ∧ (c = 0 → gi ps c = -1) := by
  have := pOkB_at h hc
  unfold okp at this
  split at this
  · simp at this; omega
  · simp at this; omega
theorem inner_empty {t : Tre} (h : treeErr t = 0) {i c : Nat} (hc : c < t.ps.length) (hi : i < c) (hp : gi t.ps c = i) : (gs t.ns i).size = 0 := by
  obtain ⟨_, _, _, hok, hn⟩ := treeErr_zero h
  have hin : isIn t.ps i = true := List.any_eq_true.2 ⟨c, List.mem_range.2 hc, by simp [hp]; omega⟩
  have := hn i (by omega)
  unfold nErr at this
  rw [if_pos hin] at this
  by_cases e : (gs t.ns i).size = 0
  · exact e
  · rw [if_neg e] at this; cases this
theorem leaf_named {t : Tre} (h : treeErr t = 0) {i : Nat} (hi : i < t.ps.length) (hin : isIn t.ps i = false) : namedB (gs t.ns i).data.toList = true ∧ seenK t.ns i = false := by
  obtain ⟨_, _, _, hok, hn⟩ := treeErr_zero h
  have := hn i hi
  unfold nErr at this
  rw [hin] at this
  cases h1 : namedB (gs t.ns i).data.toList
  · rw [h1] at this; cases this
  · cases h2 : seenK t.ns i
    · exact ⟨rfl, rfl⟩
    · rw [h1, h2] at this; cases this
end Go.Proofs.YtpjijbophjdgaaaGreat
namespace Go.Proofs.YtpjijbophjdgaaaGreat
section
variable {t : Tre} {st : List Int} {cs : List (List Int)}
end
end Go.Proofs.YtpjijbophjdgaaaGreat
namespace Go.Proofs.YtpjijbophjdgaaaGreat
end Go.Proofs.YtpjijbophjdgaaaGreat
namespace Go.Proofs.YtpjijbophjdgaaaGreat
section
variable {n m : Nat} {par own own' : Nat → Int} {cost : Nat → Nat → Int}
end
end Go.Proofs.YtpjijbophjdgaaaGreat
namespace Go.Proofs.YtpjijbophjdgaaaGreat
theorem leaf_nat {ns : List ByteArray} {i : Nat} (hi : i < (leavesL ns).length) : ∃ k : Nat, gi (leavesL ns) i = k ∧ k < ns.length ∧ (gs ns k).size ≠ 0 := by
  obtain ⟨k, e, h1, h2⟩ := mem_leavesL.1 (gi_mem hi)
  exact ⟨k, e, h1, h2⟩
section
variable {t : Tre} {st : List Int} {cs : List (List Int)}
end
end Go.Proofs.YtpjijbophjdgaaaGreat
namespace Go.Proofs.YtpjijbophjdgaaaGreat
end Go.Proofs.YtpjijbophjdgaaaGreat
namespace Go.Proofs.YtpjijbophjdgaaaGreat
end Go.Proofs.YtpjijbophjdgaaaGreat
namespace Go.Proofs
open Go.Shelf
def Tryz.lays106_ren : Go.Shelf.Ren := ⟨fun | 106 => 204 | 213 => 232 | 265 => 247 | n => n, fun | 9 => 9 | 3 => 3 | n => n, fun | n => n⟩
theorem Tryz.lays106 : Go.Proofs.Lays.n106 Tryz.prog Tryz.lays106_ren := {
  mixed := by kernel_rfl
  f106 := Tryz.func204.trans (congrArg some (by kernel_rfl))
  f213 := Tryz.func232.trans (congrArg some (by kernel_rfl))
  f265 := Tryz.func247.trans (congrArg some (by kernel_rfl))
  t3 := Tryz.underlying3
  a3 := Tryz.isAgg3
  z3 := Tryz.sizeOf3
  v3 := Tryz.zeroValue3
  t9 := Tryz.underlying9
  a9 := Tryz.isAgg9
  z9 := Tryz.sizeOf9
  v9 := Tryz.zeroValue9 }
open Go.RowKit in
theorem Tryz.strings_Compare (a b : ByteArray) (w : World) :
    Calls Tryz.prog 204 #[.string a, .string b] w fun e w' => e = .returned (.int .i64 (Lib.compareBytes a.data.toList b.data.toList)) ∧ w' = w := Any.strings_Compare Tryz.lays106 a b w
def Tryz.lays137_ren : Go.Shelf.Ren := ⟨fun | 137 => 208 | 217 => 233 | 266 => 248 | n => n, fun | 9 => 9 | 5 => 5 | 3 => 3 | n => n, fun | n => n⟩
theorem Tryz.lays137 : Go.Proofs.Lays.n137 Tryz.prog Tryz.lays137_ren := {
  mixed := by kernel_rfl
  f137 := Tryz.func208.trans (congrArg some (by kernel_rfl))
  f217 := Tryz.func233.trans (congrArg some (by kernel_rfl))
  f266 := Tryz.func248.trans (congrArg some (by kernel_rfl))
  t3 := Tryz.underlying3
  a3 := Tryz.isAgg3
  z3 := Tryz.sizeOf3
  v3 := Tryz.zeroValue3
  t5 := Tryz.underlying5
  a5 := Tryz.isAgg5
  z5 := Tryz.sizeOf5
  v5 := Tryz.zeroValue5
  t9 := Tryz.underlying9
  a9 := Tryz.isAgg9
  z9 := Tryz.sizeOf9
  v9 := Tryz.zeroValue9 }
open Go.RowKit in
theorem Tryz.strings_IndexByte (s : ByteArray) (c : Int) (w : World) :
    Calls Tryz.prog 208 #[.string s, .int .u8 c] w fun e w' => e = .returned (.int .i64 (Lib.indexByte s.data.toList c.toNat.toUInt8)) ∧ w' = w := Any.strings_IndexByte Tryz.lays137 s c w
end Go.Proofs
namespace Go.Proofs
open Go.Shelf
def Tryz.sortNode_ren : Go.Shelf.Ren := ⟨fun | 6 => 202 | 15 => 89 | 14 => 231 | 28 => 168 | 29 => 169 | 20 => 239 | 21 => 240 | 22 => 241 | 23 => 242 | 24 => 243 | 25 => 244 | 26 => 245 | 27 => 246 | 46 => 251 | 47 => 198 | 48 => 199 | 49 => 252 | 50 => 253 | 57 => 254 | n => n, fun | 22 => 111 | 24 => 113 | 25 => 219 | 3 => 3 | 39 => 106 | 0 => 0 | 53 => 187 | 55 => 81 | 4 => 4 | 46 => 180 | 45 => 179 | 50 => 184 | 5 => 5 | 9 => 9 | 66 => 211 | 70 => 215 | 76 => 236 | 77 => 237 | n => n, fun | n => n⟩
theorem Tryz.sortNode : Go.Proofs.SlLaysF.n6 Tryz.prog Tryz.sortNode_ren := {
  mixed := by kernel_rfl
  f6 := ⟨Tryz.f202.name, by decide, Tryz.func202.trans (congrArg some (by kernel_rfl))⟩
  f14 := ⟨Tryz.f231.name, by decide, Tryz.func231.trans (congrArg some (by kernel_rfl))⟩
  f15 := Tryz.func89.trans (congrArg some (by kernel_rfl))
  f20 := ⟨Tryz.f239.name, by decide, Tryz.func239.trans (congrArg some (by kernel_rfl))⟩
  f21 := ⟨Tryz.f240.name, by decide, Tryz.func240.trans (congrArg some (by kernel_rfl))⟩
  f22 := ⟨Tryz.f241.name, by decide, Tryz.func241.trans (congrArg some (by kernel_rfl))⟩
  f23 := ⟨Tryz.f242.name, by decide, Tryz.func242.trans (congrArg some (by kernel_rfl))⟩
  f24 := ⟨Tryz.f243.name, by decide, Tryz.func243.trans (congrArg some (by kernel_rfl))⟩
  f25 := ⟨Tryz.f244.name, by decide, Tryz.func244.trans (congrArg some (by kernel_rfl))⟩
  f26 := ⟨Tryz.f245.name, by decide, Tryz.func245.trans (congrArg some (by kernel_rfl))⟩
  f27 := ⟨Tryz.f246.name, by decide, Tryz.func246.trans (congrArg some (by kernel_rfl))⟩
  f28 := Tryz.func168.trans (congrArg some (by kernel_rfl))
  f29 := Tryz.func169.trans (congrArg some (by kernel_rfl))
  f46 := ⟨Tryz.f251.name, by decide, Tryz.func251.trans (congrArg some (by kernel_rfl))⟩
  f47 := Tryz.func198.trans (congrArg some (by kernel_rfl))
  f48 := Tryz.func199.trans (congrArg some (by kernel_rfl))
  f49 := ⟨Tryz.f252.name, by decide, Tryz.func252.trans (congrArg some (by kernel_rfl))⟩
  f50 := ⟨Tryz.f253.name, by decide, Tryz.func253.trans (congrArg some (by kernel_rfl))⟩
  f57 := ⟨Tryz.f254.name, by decide, Tryz.func254.trans (congrArg some (by kernel_rfl))⟩
  t0 := Tryz.underlying0
  a0 := Tryz.isAgg0
  z0 := Tryz.sizeOf0
  v0 := Tryz.zeroValue0
  t3 := Tryz.underlying3
  a3 := Tryz.isAgg3
  z3 := Tryz.sizeOf3
  v3 := Tryz.zeroValue3
  t4 := Tryz.underlying4
  a4 := Tryz.isAgg4
  z4 := Tryz.sizeOf4
  v4 := Tryz.zeroValue4
  t5 := Tryz.underlying5
  a5 := Tryz.isAgg5
  z5 := Tryz.sizeOf5
  v5 := Tryz.zeroValue5
  t9 := Tryz.underlying9
  a9 := Tryz.isAgg9
  z9 := Tryz.sizeOf9
  v9 := Tryz.zeroValue9
  t22 := Tryz.underlying111
  a22 := Tryz.isAgg111
  z22 := Tryz.sizeOf111
  v22 := Tryz.zeroValue111
  a24 := Tryz.isAgg113
  z24 := Tryz.sizeOf113
  t25 := Tryz.underlying219
  a25 := Tryz.isAgg219
  z25 := Tryz.sizeOf219
  v25 := Tryz.zeroValue219
  t39 := Tryz.underlying106
  a39 := Tryz.isAgg106
  z39 := Tryz.sizeOf106
  v39 := Tryz.zeroValue106
  t45 := Tryz.underlying179
  a45 := Tryz.isAgg179
  z45 := Tryz.sizeOf179
  v45 := Tryz.zeroValue179
  t46 := Tryz.underlying180
  a46 := Tryz.isAgg180
  z46 := Tryz.sizeOf180
  v46 := Tryz.zeroValue180
  t50 := Tryz.underlying184
  a50 := Tryz.isAgg184
  z50 := Tryz.sizeOf184
  v50 := Tryz.zeroValue184
  t53 := Tryz.underlying187
  a53 := Tryz.isAgg187
  z53 := Tryz.sizeOf187
  v53 := Tryz.zeroValue187
  t55 := Tryz.underlying81
  a55 := Tryz.isAgg81
  z55 := Tryz.sizeOf81
  v55 := Tryz.zeroValue81
  t66 := Tryz.underlying211
  a66 := Tryz.isAgg211
  z66 := Tryz.sizeOf211
  v66 := Tryz.zeroValue211
  t70 := Tryz.underlying215
  a70 := Tryz.isAgg215
  z70 := Tryz.sizeOf215
  v70 := Tryz.zeroValue215
  t76 := Tryz.underlying236
  a76 := Tryz.isAgg236
  z76 := Tryz.sizeOf236
  v76 := Tryz.zeroValue236
  t77 := Tryz.underlying237
  a77 := Tryz.isAgg237
  z77 := Tryz.sizeOf237
  v77 := Tryz.zeroValue237 }
end Go.Proofs
namespace Go.Proofs
open Go.Shelf
end Go.Proofs
