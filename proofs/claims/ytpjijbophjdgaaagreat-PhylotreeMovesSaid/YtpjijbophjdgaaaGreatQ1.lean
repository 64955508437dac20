/- What the functions of layers 1 and 31 compute, as plain functions on lists. Plain: the leaves of a tree, in order. Plain: the children of a node. Plain: costs and states. Plain: the least numbers, the table. Plain: the table of a tree. Plain: the numbers of the table are not too great. Plain: the rows of the table of a tree, its leaves' states and costs. Plain: what valid arguments are. Plain: the first best assignment. Plain: the cost of an assignment. Plain laws of the table: an unknown leaf, doubled costs, least costs. Plain laws of the score. Plain: an assignment of numbers, made to fit. Plain: what Verify accepts. Ways in which lists lie in memory, and what keeps them: for the walks of this seat. Contracts of the library that the kit lays: strings.Compare, strings.IndexByte. Names: package charset, layer 1's reference, the names of leaves. -/
import Derived.WalkKit
import Derived.WalkSpells
import Derived.WalkLawsBesides
import Derived.Deep.OwnRows
import Derived.Deep.QuietTactic
import Derived.BigQuiet
import Derived.Lib.Hide
import Derived.Shelf.Small.Strs
import Derived.Test.YtpjijbophjdgaaaGreatProg
namespace Go.Proofs.YtpjijbophjdgaaaGreat
def gi (l : List Int) (k : Nat) : Int := l.getD k 0
def gs (l : List ByteArray) (k : Nat) : ByteArray := l.getD k ByteArray.empty
def gb (l : List Bool) (k : Nat) : Bool := l.getD k false
def gl (l : List (List Int)) (k : Nat) : List Int := l.getD k []
structure Tre where
  ps : List Int
  ns : List ByteArray

theorem loop_eq (bs : ByteArray) : ∀ (n i : Nat) (r : List UInt8), bs.size - i = n → ByteArray.toList.loop bs i r = r.reverse ++ bs.data.toList.drop i := by
  intro n
  induction n with
  | zero =>
    intro i r h
    unfold ByteArray.toList.loop
    rw [if_neg (by omega), List.drop_of_length_le (by simp; omega)]; simp
  | succ n ih =>
    intro i r h
    unfold ByteArray.toList.loop
    have hi : i < bs.size := by omega
    rw [if_pos hi, ih (i + 1) _ (by omega), List.reverse_cons, List.append_assoc]
    congr 1
    rw [List.drop_eq_getElem_cons (i := i) (by simpa using hi), List.singleton_append]
    congr 1
    simp [ByteArray.get!, getElem!_pos, hi]
theorem toList_data (s : ByteArray) : s.toList = s.data.toList := by
  unfold ByteArray.toList; rw [loop_eq s _ 0 [] rfl]; simp
theorem toList_nil (s : ByteArray) : s.toList = [] ↔ s.size = 0 := by
  rw [toList_data, ← List.length_eq_zero_iff]; simp
theorem size_data (s : ByteArray) : s.data.toList.length = s.size := by simp
theorem ba_ext {a b : ByteArray} (h : a.data.toList = b.data.toList) : a = b := by
  cases a; cases b; simpa using h
def isLet (c : Nat) : Bool := (97 ≤ c && c ≤ 122) || (65 ≤ c && c ≤ 90)
def isPun (c : Nat) : Bool := c == 46 || c == 44 || c == 59 || c == 58 || c == 33 || c == 63 || c == 40 || c == 41 || c == 45
def kindL (c : Nat) : Int := if isLet c then 1 else if c = 94 ∨ c = 126 ∨ c = 37 then 2 else if 48 ≤ c ∧ c ≤ 57 then 3 else if c = 39 then 4 else if c = 32 then 6 else if isPun c then 5 else 0
def aln (c : UInt8) : Bool := isLet c.toNat || (48 ≤ c.toNat && c.toNat ≤ 57)
def cntA (l : List UInt8) : Nat := l.countP aln
def isNameB (l : List UInt8) : Bool := 1 ≤ l.length && l.length ≤ 16 && l.all aln
def namedB (l : List UInt8) : Bool := if l.getLast? = some 42 then isNameB l.dropLast && l.length ≤ 16 else isNameB l

def okp (i : Nat) (p : Int) : Bool := if i = 0 then p == -1 else decide (0 ≤ p) && decide (p < i)
def pOkB (ps : List Int) : Bool := (List.range ps.length).all fun i => okp i (gi ps i)
def inK (ps : List Int) (n i : Nat) : Bool := (List.range n).any fun j => decide (0 < j) && gi ps j == (i : Int)
def isIn (ps : List Int) (i : Nat) : Bool := inK ps ps.length i
def seenK (ns : List ByteArray) (i : Nat) : Bool := (List.range i).any fun j => decide (gs ns j = gs ns i)
def nErr (ps : List Int) (ns : List ByteArray) (i : Nat) : Int :=
  if isIn ps i then (if (gs ns i).size = 0 then 0 else 14) else if namedB (gs ns i).data.toList then (if seenK ns i then 7 else 0) else 14
def firstNZ (f : Nat → Int) : Nat → Int
  | 0 => 0
  | n + 1 => if firstNZ f n = 0 then f n else firstNZ f n
def treeErr (t : Tre) : Int :=
  if t.ps.length = 0 then 5 else if 64 < t.ps.length then 4 else if t.ns.length ≠ t.ps.length then 9
  else if pOkB t.ps then firstNZ (nErr t.ps t.ns) t.ps.length else 2
def leavesL (ns : List ByteArray) : List Int := ((List.range ns.length).filter fun i => (gs ns i).size ≠ 0).map fun (i : Nat) => (i : Int)

theorem firstNZ_zero {f : Nat → Int} : ∀ {n : Nat}, (∀ j, j < n → f j = 0) → firstNZ f n = 0
  | 0, _ => rfl
  | n + 1, h => by
    unfold firstNZ
    rw [if_pos (firstNZ_zero fun j hj => h j (by omega))]; exact h n (by omega)
theorem firstNZ_at {f : Nat → Int} {k : Nat} : ∀ {n : Nat}, k < n → (∀ j, j < k → f j = 0) → f k ≠ 0 → firstNZ f n = f k
  | 0, h, _, _ => absurd h (Nat.not_lt_zero _)
  | n + 1, hk, h, hne => by
    unfold firstNZ
    by_cases e : k = n
    · subst e; rw [if_pos (firstNZ_zero h)]
    · rw [firstNZ_at (by omega) h hne, if_neg hne]
theorem firstNZ_eq_zero {f : Nat → Int} : ∀ {n : Nat}, firstNZ f n = 0 → ∀ j, j < n → f j = 0
  | 0, _, j, hj => absurd hj (Nat.not_lt_zero _)
  | n + 1, h, j, hj => by
    unfold firstNZ at h
    split at h
    · rename_i h0
      by_cases e : j = n
      · subst e; exact h
      · exact firstNZ_eq_zero h0 j (by omega)
    · rename_i h0; exact absurd h h0
theorem inK_succ (ps : List Int) (n i : Nat) : inK ps (n + 1) i = (inK ps n i || (decide (0 < n) && gi ps n == (i : Int))) := by
  simp [inK, List.range_succ, List.any_append]
theorem pOkB_bad {ps : List Int} {k : Nat} (hk : k < ps.length) (h : okp k (gi ps k) = false) : pOkB ps = false := by
  rw [Bool.eq_false_iff]; intro e
  have := List.all_eq_true.1 e k (List.mem_range.2 hk)
  simp [h] at this
theorem pOkB_all {ps : List Int} (h : ∀ j, j < ps.length → okp j (gi ps j) = true) : pOkB ps = true :=
  List.all_eq_true.2 fun j hj => h j (List.mem_range.1 hj)
theorem pOkB_at {ps : List Int} (h : pOkB ps = true) {j : Nat} (hj : j < ps.length) : okp j (gi ps j) = true :=
  List.all_eq_true.1 h j (List.mem_range.2 hj)
def firstIx (p : Nat → Bool) : Nat → Int
  | 0 => -1
  | n + 1 => if firstIx p n = -1 then (if p n then (n : Int) else -1) else firstIx p n
theorem firstIx_succ (p : Nat → Bool) (n : Nat) : firstIx p (n + 1) = if firstIx p n = -1 then (if p n then (n : Int) else -1) else firstIx p n := rfl
theorem firstIx_none {p : Nat → Bool} : ∀ {n : Nat}, (∀ j, j < n → p j = false) → firstIx p n = -1
  | 0, _ => rfl
  | n + 1, h => by
    rw [firstIx_succ, if_pos (firstIx_none fun j hj => h j (by omega)), h n (by omega)]; rfl
theorem firstIx_at {p : Nat → Bool} {k : Nat} : ∀ {n : Nat}, k < n → (∀ j, j < k → p j = false) → p k = true → firstIx p n = k
  | 0, h, _, _ => absurd h (Nat.not_lt_zero _)
  | n + 1, hk, h, hp => by
    rw [firstIx_succ]
    by_cases e : k = n
    · subst e; rw [if_pos (firstIx_none h), hp]; rfl
    · rw [firstIx_at (by omega) h hp, if_neg (by omega)]
theorem firstIx_lo (p : Nat → Bool) (n : Nat) : -1 ≤ firstIx p n ∧ firstIx p n < n ∧ (firstIx p n = -1 ∨ 0 ≤ firstIx p n) := by
  induction n with
  | zero => simp [firstIx]
  | succ n ih => rw [firstIx_succ]; split <;> (try split) <;> omega
theorem firstIx_any (p : Nat → Bool) (n : Nat) : decide (0 ≤ firstIx p n) = (List.range n).any p := by
  induction n with
  | zero => simp [firstIx]
  | succ n ih =>
    have hl := firstIx_lo p n
    rw [List.range_succ, List.any_append, ← ih, firstIx_succ]
    by_cases h : firstIx p n = -1
    · rw [if_pos h, h]; cases hp : p n <;> simp [hp]
    · rw [if_neg h]; have : 0 ≤ firstIx p n := by omega
      simp [this]
end Go.Proofs.YtpjijbophjdgaaaGreat
namespace Go.Proofs.YtpjijbophjdgaaaGreat
end Go.Proofs.YtpjijbophjdgaaaGreat
namespace Go.Proofs.YtpjijbophjdgaaaGreat
def kidsK (ps : List Int) (n k : Nat) : List Nat := (List.range k).filter fun i => decide (n < i) && gi ps i == (n : Int)
def kidsL (ps : List Int) (n : Nat) : List Nat := kidsK ps n ps.length
def ofNats (l : List Nat) : List Int := l.map fun (i : Nat) => (i : Int)
theorem kidsK_succ (ps : List Int) (n k : Nat) : kidsK ps n (k + 1) = kidsK ps n k ++ (if n < k ∧ gi ps k = n then [k] else []) := by
  unfold kidsK
  rw [List.range_succ, List.filter_append]
  congr 1
  by_cases h : n < k ∧ gi ps k = n
  · rw [if_pos h]; simp [h.1, h.2]
  · rw [if_neg h]
    have : (decide (n < k) && gi ps k == (n : Int)) = false := by
      rw [Bool.eq_false_iff]; intro e; apply h; simpa using e
    simp [this]
theorem kidsK_start (ps : List Int) (n : Nat) : kidsK ps n (n + 1) = [] := by
  unfold kidsK
  rw [List.filter_eq_nil_iff]; intro a ha; have := List.mem_range.1 ha; simp; omega
theorem kidsK_len (ps : List Int) (n k : Nat) : (kidsK ps n k).length ≤ k := by
  unfold kidsK; exact Nat.le_trans (List.length_filter_le _ _) (by simp)
theorem mem_kidsL {ps : List Int} {n i : Nat} : i ∈ kidsL ps n ↔ i < ps.length ∧ n < i ∧ gi ps i = n := by
  unfold kidsL kidsK; rw [List.mem_filter, List.mem_range]; simp
theorem ofNats_append (a b : List Nat) : ofNats (a ++ b) = ofNats a ++ ofNats b := List.map_append
theorem kids_isIn {ps : List Int} (h : pOkB ps = true) (n : Nat) : kidsL ps n ≠ [] ↔ isIn ps n = true := by
  constructor
  · intro hne
    obtain ⟨i, hi⟩ := List.exists_mem_of_ne_nil _ hne
    obtain ⟨h1, h2, h3⟩ := mem_kidsL.1 hi
    exact List.any_eq_true.2 ⟨i, List.mem_range.2 h1, by simp [h3]; omega⟩
  · intro hin
    obtain ⟨i, hi, h2⟩ := List.any_eq_true.1 hin
    have hi := List.mem_range.1 hi
    simp at h2
    have := pOkB_at h hi
    unfold okp at this
    rw [if_neg (by omega)] at this
    simp at this
    exact List.ne_nil_of_mem (mem_kidsL.2 ⟨hi, by omega, h2.2⟩)
end Go.Proofs.YtpjijbophjdgaaaGreat
namespace Go.Proofs.YtpjijbophjdgaaaGreat
def stBad (st : List Int) (least most : Int) : Bool := (List.range st.length).any fun k => decide (gi st k < least) || decide (most ≤ gi st k)
def badc (a b : Nat) (c : Int) : Bool := decide (c < 0) || decide (1000 < c) || (decide (a = b) && decide (c ≠ 0))
def rowBad (a : Nat) (row : List Int) (k : Nat) : Bool := (List.range k).any fun b => badc a b (gi row b)
def matBadK (cs : List (List Int)) (k : Nat) : Bool := (List.range k).any fun a => rowBad a (gl cs a) (gl cs a).length
def lenBad (cs : List (List Int)) : Bool := (List.range cs.length).any fun a => decide ((gl cs a).length ≠ cs.length)
def matErr (cs : List (List Int)) : Int := if cs.length = 0 then 5 else if 16 < cs.length then 4 else if lenBad cs then 9 else if matBadK cs cs.length then 2 else 0
theorem any_none {p : Nat → Bool} {n : Nat} (h : ∀ j, j < n → p j = false) : (List.range n).any p = false := by
  rw [Bool.eq_false_iff]; intro e
  obtain ⟨j, hj, hp⟩ := List.any_eq_true.1 e
  rw [h j (List.mem_range.1 hj)] at hp; cases hp
theorem any_at {p : Nat → Bool} {n k : Nat} (hk : k < n) (hp : p k = true) : (List.range n).any p = true := List.any_eq_true.2 ⟨k, List.mem_range.2 hk, hp⟩
theorem any_false {p : Nat → Bool} {n : Nat} (h : (List.range n).any p = false) {k : Nat} (hk : k < n) : p k = false := by
  cases e : p k with
  | false => rfl
  | true => rw [any_at hk e] at h; cases h
end Go.Proofs.YtpjijbophjdgaaaGreat
namespace Go.Proofs.YtpjijbophjdgaaaGreat
end Go.Proofs.YtpjijbophjdgaaaGreat
namespace Go.Proofs.YtpjijbophjdgaaaGreat
def sumN (f : Nat → Int) : Nat → Int
  | 0 => 0
  | n + 1 => sumN f n + f n
section
variable {n m : Nat} {par own : Nat → Int} {cost : Nat → Nat → Int}
end
end Go.Proofs.YtpjijbophjdgaaaGreat
namespace Go.Proofs.YtpjijbophjdgaaaGreat
section
variable {n m : Nat} {par own : Nat → Int} {cost : Nat → Nat → Int}
def uF (n : Nat) (par : Nat → Int) : Nat → Nat → Int
  | 0, _ => 0
  | d + 1, i => sumN (fun c => if i < c ∧ par c = i then uF n par d c + 1000 else 0) n
def ub (n : Nat) (par : Nat → Int) (i : Nat) : Int := uF n par n i
end
end Go.Proofs.YtpjijbophjdgaaaGreat
namespace Go.Proofs.YtpjijbophjdgaaaGreat
end Go.Proofs.YtpjijbophjdgaaaGreat
namespace Go.Proofs.YtpjijbophjdgaaaGreat
theorem treeErr_zero {t : Tre} (h : treeErr t = 0) : 0 < t.ps.length ∧ t.ps.length ≤ 64 ∧ t.ns.length = t.ps.length ∧ pOkB t.ps = true ∧ ∀ i, i < t.ps.length → nErr t.ps t.ns i = 0 := by
  unfold treeErr at h
  split at h
  · cases h
  · split at h
    · cases h
    · split at h
      · cases h
      · split at h
        · exact ⟨by omega, by omega, by omega, ‹_›, firstNZ_eq_zero h⟩
        · cases h
theorem gi_mem {l : List Int} {k : Nat} (h : k < l.length) : gi l k ∈ l := by simp [gi, h]
structure Valid (t : Tre) (st : List Int) (cs : List (List Int)) : Prop where
  tree : treeErr t = 0
  mat : matErr cs = 0
  len : st.length = (leavesL t.ns).length
  good : stBad st (-1) cs.length = false
theorem par_ok {ps : List Int} (h : pOkB ps = true) {c : Nat} (hc : c < ps.length) : gi ps c < c ∧ (0 < c → 0 ≤ gi ps c) ∧ (c = 0 → gi ps c = -1) := by
  have := pOkB_at h hc
  unfold okp at this
  split at this
  · simp at this; omega
  · simp at this; omega
theorem inner_empty {t : Tre} (h : treeErr t = 0) {i c : Nat} (hc : c < t.ps.length) (hi : i < c) (hp : gi t.ps c = i) : (gs t.ns i).size = 0 := by
  obtain ⟨_, _, _, hok, hn⟩ := treeErr_zero h
  have hin : isIn t.ps i = true := List.any_eq_true.2 ⟨c, List.mem_range.2 hc, by simp [hp]; omega⟩
  have := hn i (by omega)
  unfold nErr at this
  rw [if_pos hin] at this
  by_cases e : (gs t.ns i).size = 0
  · exact e
  · rw [if_neg e] at this; cases this
theorem leaf_named {t : Tre} (h : treeErr t = 0) {i : Nat} (hi : i < t.ps.length) (hin : isIn t.ps i = false) : namedB (gs t.ns i).data.toList = true ∧ seenK t.ns i = false := by
  obtain ⟨_, _, _, hok, hn⟩ := treeErr_zero h
  have := hn i hi
  unfold nErr at this
  rw [hin] at this
  cases h1 : namedB (gs t.ns i).data.toList
  · rw [h1] at this; cases this
  · cases h2 : seenK t.ns i
    · exact ⟨rfl, rfl⟩
    · rw [h1, h2] at this; cases this
end Go.Proofs.YtpjijbophjdgaaaGreat
namespace Go.Proofs.YtpjijbophjdgaaaGreat
section
variable {t : Tre} {st : List Int} {cs : List (List Int)}
end
end Go.Proofs.YtpjijbophjdgaaaGreat
namespace Go.Proofs.YtpjijbophjdgaaaGreat
end Go.Proofs.YtpjijbophjdgaaaGreat
namespace Go.Proofs.YtpjijbophjdgaaaGreat
section
variable {n m : Nat} {par own own' : Nat → Int} {cost : Nat → Nat → Int}
end
end Go.Proofs.YtpjijbophjdgaaaGreat
namespace Go.Proofs.YtpjijbophjdgaaaGreat
section
variable {t : Tre} {st : List Int} {cs : List (List Int)}
end
end Go.Proofs.YtpjijbophjdgaaaGreat
namespace Go.Proofs.YtpjijbophjdgaaaGreat
end Go.Proofs.YtpjijbophjdgaaaGreat
namespace Go.Proofs.YtpjijbophjdgaaaGreat
end Go.Proofs.YtpjijbophjdgaaaGreat
namespace Go.Proofs.YtpjijbophjdgaaaGreat
open Go.RowKit Go.Deep

def SlAt (S : Nat → Prop) (w : World) (v : Value) (n : Nat) (f : Nat → Value) : Prop :=
  ∃ p cap, v = .slice p n cap ∧ n ≤ cap ∧ (n = 0 ∨ ∃ b off, p = some ⟨b, off, none⟩ ∧ S b ∧ ∀ k, k < n → w.cell? ⟨b, off + k, none⟩ = some (f k))
def IntsAt (S : Nat → Prop) (w : World) (v : Value) (xs : List Int) : Prop := SlAt S w v xs.length (fun k => .int .i64 (gi xs k))
def StrsAt (S : Nat → Prop) (w : World) (v : Value) (xs : List ByteArray) : Prop := SlAt S w v xs.length (fun k => .string (gs xs k))
def TreeAt (S : Nat → Prop) (w : World) (v : Value) (t : Tre) : Prop := ∃ P N, v = .agg #[P, N] ∧ IntsAt S w P t.ps ∧ StrsAt S w N t.ns

def Kept (S : Nat → Prop) (w w' : World) : Prop := ∀ b, S b → b < w.heap.size → w'.heap[b]? = w.heap[b]?
def Any (_ : Nat) : Prop := True

theorem SlAt.keep {S : Nat → Prop} {w w' : World} {v : Value} {n : Nat} {f : Nat → Value} (h : SlAt S w v n f) (k : Kept S w w') : SlAt S w' v n f := by
  obtain ⟨p, cap, rfl, hn, h⟩ := h
  refine ⟨p, cap, rfl, hn, ?_⟩
  rcases h with h | ⟨b, off, rfl, hS, h⟩
  · exact .inl h
  · refine .inr ⟨b, off, rfl, hS, fun i hi => ?_⟩
    have hlt : b < w.heap.size := World.block_lt_of_cell? w _ (h i hi)
    rw [World.cell?_of_block (a := ⟨b, off + i, none⟩) (k b hS hlt)]
    exact h i hi
theorem IntsAt.keep {S : Nat → Prop} {w w' : World} {v : Value} {xs : List Int} (h : IntsAt S w v xs) (k : Kept S w w') : IntsAt S w' v xs := SlAt.keep h k
theorem StrsAt.keep {S : Nat → Prop} {w w' : World} {v : Value} {xs : List ByteArray} (h : StrsAt S w v xs) (k : Kept S w w') : StrsAt S w' v xs := SlAt.keep h k
theorem TreeAt.keep {S : Nat → Prop} {w w' : World} {v : Value} {t : Tre} (h : TreeAt S w v t) (k : Kept S w w') : TreeAt S w' v t := by
  obtain ⟨P, N, rfl, h1, h2⟩ := h
  exact ⟨P, N, rfl, h1.keep k, h2.keep k⟩
theorem SlAt.sub {S T : Nat → Prop} {w : World} {v : Value} {n : Nat} {f : Nat → Value} (h : SlAt S w v n f) (k : ∀ b, S b → b < w.heap.size → T b) : SlAt T w v n f := by
  obtain ⟨p, cap, rfl, hn, h⟩ := h
  refine ⟨p, cap, rfl, hn, ?_⟩
  rcases h with h | ⟨b, off, rfl, hS, h⟩
  · exact .inl h
  · by_cases hn0 : n = 0
    · exact .inl hn0
    · exact .inr ⟨b, off, rfl, k b hS (World.block_lt_of_cell? w _ (h 0 (by omega))), h⟩
theorem IntsAt.sub {S T : Nat → Prop} {w : World} {v : Value} {xs : List Int} (h : IntsAt S w v xs) (k : ∀ b, S b → b < w.heap.size → T b) : IntsAt T w v xs := SlAt.sub h k
theorem StrsAt.sub {S T : Nat → Prop} {w : World} {v : Value} {xs : List ByteArray} (h : StrsAt S w v xs) (k : ∀ b, S b → b < w.heap.size → T b) : StrsAt T w v xs := SlAt.sub h k
theorem TreeAt.sub {S T : Nat → Prop} {w : World} {v : Value} {t : Tre} (h : TreeAt S w v t) (k : ∀ b, S b → b < w.heap.size → T b) : TreeAt T w v t := by
  obtain ⟨P, N, rfl, h1, h2⟩ := h
  exact ⟨P, N, rfl, h1.sub k, h2.sub k⟩
theorem Kept.below {S : Nat → Prop} {a b : World} (h : Below a.heap.size a b) : Kept S a b := fun i _ hl => h.block i hl
theorem SlAt.open {S : Nat → Prop} {w : World} {v : Value} {n : Nat} {f : Nat → Value} (h : SlAt S w v n f) :
    ∃ p cap, v = .slice p n cap ∧ n ≤ cap ∧ ∀ k, k < n → ∃ b off, p = some ⟨b, off, none⟩ ∧ w.cell? ⟨b, off + k, none⟩ = some (f k) := by
  obtain ⟨p, cap, rfl, hn, h⟩ := h
  refine ⟨p, cap, rfl, hn, fun k hk => ?_⟩
  rcases h with h | ⟨b, off, rfl, _, h⟩
  · omega
  · exact ⟨b, off, rfl, h k hk⟩
theorem below_drewN {B : Nat} {a w : World} (h : Below B a w) (n : Nat) : Below B a (w.drewN n) := ⟨h.os, h.tape, h.output, h.size, h.block⟩
theorem ret_int {k : IntKind} {a b : Int} (h : a = b) : Ending.returned (.int k a) = .returned (.int k b) := by rw [h]
theorem ret_bool {a b : Bool} (h : a = b) : Ending.returned (.bool a) = .returned (.bool b) := by rw [h]
end Go.Proofs.YtpjijbophjdgaaaGreat
namespace Go.Proofs
open Go.Shelf
def Tryz.lays106_ren : Go.Shelf.Ren := ⟨fun | 106 => 204 | 213 => 232 | 265 => 247 | n => n, fun | 9 => 9 | 3 => 3 | n => n, fun | n => n⟩
theorem Tryz.lays106 : Go.Proofs.Lays.n106 Tryz.prog Tryz.lays106_ren := {
  mixed := by kernel_rfl
  f106 := Tryz.func204.trans (congrArg some (by kernel_rfl))
  f213 := Tryz.func232.trans (congrArg some (by kernel_rfl))
  f265 := Tryz.func247.trans (congrArg some (by kernel_rfl))
  t3 := Tryz.underlying3
  a3 := Tryz.isAgg3
  z3 := Tryz.sizeOf3
  v3 := Tryz.zeroValue3
  t9 := Tryz.underlying9
  a9 := Tryz.isAgg9
  z9 := Tryz.sizeOf9
  v9 := Tryz.zeroValue9 }
open Go.RowKit in
theorem Tryz.strings_Compare (a b : ByteArray) (w : World) :
    Calls Tryz.prog 204 #[.string a, .string b] w fun e w' => e = .returned (.int .i64 (Lib.compareBytes a.data.toList b.data.toList)) ∧ w' = w := Any.strings_Compare Tryz.lays106 a b w
def Tryz.lays137_ren : Go.Shelf.Ren := ⟨fun | 137 => 208 | 217 => 233 | 266 => 248 | n => n, fun | 9 => 9 | 5 => 5 | 3 => 3 | n => n, fun | n => n⟩
theorem Tryz.lays137 : Go.Proofs.Lays.n137 Tryz.prog Tryz.lays137_ren := {
  mixed := by kernel_rfl
  f137 := Tryz.func208.trans (congrArg some (by kernel_rfl))
  f217 := Tryz.func233.trans (congrArg some (by kernel_rfl))
  f266 := Tryz.func248.trans (congrArg some (by kernel_rfl))
  t3 := Tryz.underlying3
  a3 := Tryz.isAgg3
  z3 := Tryz.sizeOf3
  v3 := Tryz.zeroValue3
  t5 := Tryz.underlying5
  a5 := Tryz.isAgg5
  z5 := Tryz.sizeOf5
  v5 := Tryz.zeroValue5
  t9 := Tryz.underlying9
  a9 := Tryz.isAgg9
  z9 := Tryz.sizeOf9
  v9 := Tryz.zeroValue9 }
open Go.RowKit in
theorem Tryz.strings_IndexByte (s : ByteArray) (c : Int) (w : World) :
    Calls Tryz.prog 208 #[.string s, .int .u8 c] w fun e w' => e = .returned (.int .i64 (Lib.indexByte s.data.toList c.toNat.toUInt8)) ∧ w' = w := Any.strings_IndexByte Tryz.lays137 s c w
end Go.Proofs
namespace Go.Proofs.YtpjijbophjdgaaaGreat
open Go.RowKit Go.Deep
def punS : ByteArray := ⟨#[46, 44, 59, 58, 33, 63, 40, 41, 45]⟩
theorem pun_ix : ∀ c, c < 256 → (decide (0 ≤ Lib.indexByte punS.data.toList c.toUInt8)) = isPun c := by
  decide +kernel
theorem ofk {a b : Int} (h : a = b) {w w' : World} (hw : w = w') : Ending.returned (.int .i64 a) = .returned (.int .i64 b) ∧ w = w' := ⟨by rw [h], hw⟩
theorem pun_iff {c : Nat} {x : Int} (hc : c < 256) (hx : Lib.indexByte [46, 44, 59, 58, 33, 63, 40, 41, 45] ((c : Int).toNat).toUInt8 = x) : 0 ≤ x ↔ isPun c = true := by
  have h := pun_ix c hc
  rw [← h, ← hx]; simp [punS]
set_option maxRecDepth 100000 in
set_option maxHeartbeats 400000 in
theorem kind_t (c : Nat) (hc : c < 256) (w : World) : Calls Tryz.prog 219 #[.int .u8 c] w fun e w' => e = .returned (.int .i64 (kindL c)) ∧ w = w' := by
  go_enter Tryz.func219, Tryz.ntmps219
  go_wp2_with (go_at_call 208; refine (Tryz.strings_IndexByte _ _ _).mono ?_; rintro e w' ⟨rfl, rfl⟩; generalize hx : Lib.indexByte _ _ = x)
  all_goals (try go_ret)
  all_goals (refine ofk ?_ rfl)
  all_goals (first | (have h5 := pun_iff hc ‹Lib.indexByte _ _ = _›; unfold kindL isLet; by_cases hp : isPun c = true <;> simp only [hp] at * <;> simp at * <;> omega) | (simp [kindL, isLet, isPun] at *; done) | (simp [kindL, isLet, isPun] at *; omega))
end Go.Proofs.YtpjijbophjdgaaaGreat
