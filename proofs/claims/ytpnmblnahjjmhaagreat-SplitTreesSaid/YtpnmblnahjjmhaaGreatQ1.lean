/- What the functions of layers 1 and 31 compute, as plain functions on lists. Plain: the .. -/
import Derived.WalkKit
import Derived.WalkSpells
import Derived.WalkLawsBesides
import Derived.Deep.OwnRows
import Derived.Deep.QuietTactic
import Derived.BigQuiet
import Derived.Lib.Hide
import Derived.Shelf.Small.Strs
import Derived.Test.YtpnmblnahjjmhaaGreatProg
set_option maxRecDepth 100000
namespace Go.Proofs.YtpnmblnahjjmhaaGreat
open Go.RowKit in
theorem aa {p : Prop} (h : p) : Hid p := h
theorem aj {α : Type} {i : Nat} {a : α} {l : List α} : l.toArray.setIfInBounds i a = (l.set i a).toArray := List.setIfInBounds_toArray ..
theorem aq {α : Type} {a b : α} {l : List α} : (a :: l).set 0 b = b :: l := List.set_cons_zero ..
theorem au {α : Type} {n : Nat} {a b : α} {l : List α} : (a :: l).set (n + 1) b = a :: l.set n b := List.set_cons_succ ..
section
def gi (l : List Int) (k : Nat) : Int := l.getD k 0
def gs (l : List ByteArray) (k : Nat) : ByteArray := l.getD k ByteArray.empty
def gb (l : List Bool) (k : Nat) : Bool := l.getD k false
def gl (l : List (List Int)) (k : Nat) : List Int := l.getD k []
structure aA where
 ps : List Int
 ns : List ByteArray

theorem Vp (bs : ByteArray) : ∀ (n i : Nat) (r : List UInt8), bs.size - i = n → ByteArray.toList.loop bs i r = r.reverse ++ bs.data.toList.drop i := by
 intro n
 induction n with
 | zero =>
  intro i r h
  unfold ByteArray.toList.loop
  rw [if_neg (by omega), List.drop_of_length_le (by simp; omega)]; simp
 | succ n ih =>
  intro i r h
  unfold ByteArray.toList.loop
  have hi : i < bs.size := by omega
  rw [if_pos hi, ih (i + 1) _ (by omega), List.reverse_cons, List.append_assoc]
  congr 1
  rw [List.drop_eq_getElem_cons (i := i) (by simpa using hi), List.singleton_append]
  congr 1
  simp [ByteArray.get!, getElem!_pos, hi]
theorem toList_data (s : ByteArray) : s.toList = s.data.toList := by
 unfold ByteArray.toList; rw [Vp s _ 0 [] rfl]; simp
theorem toList_nil (s : ByteArray) : s.toList = [] ↔ s.size = 0 := by
 rw [toList_data, ← List.length_eq_zero_iff]; simp
theorem size_data (s : ByteArray) : s.data.toList.length = s.size := by simp
theorem ua {a b : ByteArray} (h : a.data.toList = b.data.toList) : a = b := by
 cases a; cases b; simpa using h
def isLet (c : Nat) : Bool := (97 ≤ c && c ≤ 122) || (65 ≤ c && c ≤ 90)
def uQ (c : Nat) : Bool := c == 46 || c == 44 || c == 59 || c == 58 || c == 33 || c == 63 || c == 40 || c == 41 || c == 45
def cW (c : Nat) : Int := if isLet c then 1 else if c = 94 ∨ c = 126 ∨ c = 37 then 2 else if 48 ≤ c ∧ c ≤ 57 then 3 else if c = 39 then 4 else if c = 32 then 6 else if uQ c then 5 else 0
def qU (c : UInt8) : Bool := isLet c.toNat || (48 ≤ c.toNat && c.toNat ≤ 57)
def jC (l : List UInt8) : Nat := l.countP qU
def eG (l : List UInt8) : Bool := 1 ≤ l.length && l.length ≤ 16 && l.all qU
def bq (l : List UInt8) : Bool := if l.getLast? = some 42 then eG l.dropLast && l.length ≤ 16 else eG l

def mH (i : Nat) (p : Int) : Bool := if i = 0 then p == -1 else decide (0 ≤ p) && decide (p < i)
def fK (ps : List Int) : Bool := (List.range ps.length).all fun i => mH i (gi ps i)
def AU (ps : List Int) (n i : Nat) : Bool := (List.range n).any fun j => decide (0 < j) && gi ps j == (i : Int)
def isIn (ps : List Int) (i : Nat) : Bool := AU ps ps.length i
def cZ (ns : List ByteArray) (i : Nat) : Bool := (List.range i).any fun j => decide (gs ns j = gs ns i)
def iR (ps : List Int) (ns : List ByteArray) (i : Nat) : Int :=
 if isIn ps i then (if (gs ns i).size = 0 then 0 else 14) else if bq (gs ns i).data.toList then (if cZ ns i then 7 else 0) else 14
def firstNZ (f : Nat → Int) : Nat → Int
 | 0 => 0
 | n + 1 => if firstNZ f n = 0 then f n else firstNZ f n
def aB (t : aA) : Int :=
 if t.ps.length = 0 then 5 else if 64 < t.ps.length then 4 else if t.ns.length ≠ t.ps.length then 9
 else if fK t.ps then firstNZ (iR t.ps t.ns) t.ps.length else 2
def aV (ns : List ByteArray) : List Int := ((List.range ns.length).filter fun i => (gs ns i).size ≠ 0).map fun (i : Nat) => (i : Int)

theorem cA {f : Nat → Int} : ∀ {n : Nat}, (∀ j, j < n → f j = 0) → firstNZ f n = 0
 | 0, _ => rfl
 | n + 1, h => by
  unfold firstNZ
  rw [if_pos (cA fun j hj => h j (by omega))]; exact h n (by omega)
theorem eY {f : Nat → Int} {k : Nat} : ∀ {n : Nat}, k < n → (∀ j, j < k → f j = 0) → f k ≠ 0 → firstNZ f n = f k
 | 0, h, _, _ => absurd h (Nat.not_lt_zero _)
 | n + 1, hk, h, hne => by
  unfold firstNZ
  by_cases e : k = n
  ·subst e; rw [if_pos (cA h)]
  ·rw [eY (by omega) h hne, if_neg hne]
theorem iH {f : Nat → Int} : ∀ {n : Nat}, firstNZ f n = 0 → ∀ j, j < n → f j = 0
 | 0, _, j, hj => absurd hj (Nat.not_lt_zero _)
 | n + 1, h, j, hj => by
  unfold firstNZ at h
  split at h
  ·rename_i h0
   by_cases e : j = n
   ·subst e; exact h
   ·exact iH h0 j (by omega)
  ·rename_i h0; exact absurd h h0
theorem Fi (ps : List Int) (n i : Nat) : AU ps (n + 1) i = (AU ps n i || (decide (0 < n) && gi ps n == (i : Int))) := by
 simp [AU, List.range_succ, List.any_append]
theorem Fj {ps : List Int} {k : Nat} (hk : k < ps.length) (h : mH k (gi ps k) = false) : fK ps = false := by
 rw [Bool.eq_false_iff]; intro e
 have := List.all_eq_true.1 e k (List.mem_range.2 hk)
 simp [h] at this
theorem zT {ps : List Int} (h : ∀ j, j < ps.length → mH j (gi ps j) = true) : fK ps = true :=
 List.all_eq_true.2 fun j hj => h j (List.mem_range.1 hj)
theorem yG {ps : List Int} (h : fK ps = true) {j : Nat} (hj : j < ps.length) : mH j (gi ps j) = true :=
 List.all_eq_true.1 h j (List.mem_range.2 hj)
def cE (p : Nat → Bool) : Nat → Int
 | 0 => -1
 | n + 1 => if cE p n = -1 then (if p n then (n : Int) else -1) else cE p n
theorem j8 (p : Nat → Bool) (n : Nat) : cE p (n + 1) = if cE p n = -1 then (if p n then (n : Int) else -1) else cE p n := rfl
theorem dP {p : Nat → Bool} : ∀ {n : Nat}, (∀ j, j < n → p j = false) → cE p n = -1
 | 0, _ => rfl
 | n + 1, h => by
  rw [j8, if_pos (dP fun j hj => h j (by omega)), h n (by omega)]; rfl
theorem fS {p : Nat → Bool} {k : Nat} : ∀ {n : Nat}, k < n → (∀ j, j < k → p j = false) → p k = true → cE p n = k
 | 0, h, _, _ => absurd h (Nat.not_lt_zero _)
 | n + 1, hk, h, hp => by
  rw [j8]
  by_cases e : k = n
  ·subst e; rw [if_pos (dP h), hp]; rfl
  ·rw [fS (by omega) h hp, if_neg (by omega)]
theorem AV (p : Nat → Bool) (n : Nat) : -1 ≤ cE p n ∧ cE p n < n ∧ (cE p n = -1 ∨ 0 ≤ cE p n) := by
 induction n with
 | zero => simp [cE]
 | succ n ih => rw [j8]; split <;> (try split) <;> omega
theorem fT (p : Nat → Bool) (n : Nat) : decide (0 ≤ cE p n) = (List.range n).any p := by
 induction n with
 | zero => simp [cE]
 | succ n ih =>
  have hl := AV p n
  rw [List.range_succ, List.any_append, ← ih, j8]
  by_cases h : cE p n = -1
  ·rw [if_pos h, h]; cases hp : p n <;> simp [hp]
  ·rw [if_neg h]; have : 0 ≤ cE p n := by omega
   simp [this]
theorem ni {p : Nat → Bool} {n k : Nat} (h : cE p n = k) : k < n ∧ p k = true ∧ ∀ j, j < k → p j = false := by
 induction n with
 | zero => simp [cE] at h
 | succ n ih =>
  rw [j8] at h
  by_cases h1 : cE p n = -1
  ·rw [if_pos h1] at h
   by_cases hp : p n = true
   ·rw [if_pos hp] at h
    obtain rfl : n = k := by omega
    refine ⟨by omega, hp, fun j hj => ?_⟩
    cases hq : p j with
    | false => rfl
    | true =>
     exfalso
     have := fT p n
     rw [h1] at this
     have h2 : (List.range n).any p = true := List.any_eq_true.2 ⟨j, List.mem_range.2 hj, hq⟩
     rw [h2] at this; simp at this
   ·rw [if_neg hp] at h; omega
  ·rw [if_neg h1] at h
   have := ih h
   exact ⟨by omega, this.2⟩
end
section
def gy (ns : List ByteArray) (k : Nat) : List Int := ((List.range k).filter fun i => (gs ns i).size ≠ 0).map fun (i : Nat) => (i : Int)
theorem wQ (ns : List ByteArray) (k : Nat) : gy ns (k + 1) = gy ns k ++ (if (gs ns k).size = 0 then [] else [(k : Int)]) := by
 unfold gy
 rw [List.range_succ, List.filter_append, List.map_append]
 congr 1
 by_cases h : (gs ns k).size = 0
 ·have h2 : decide ((gs ns k).size ≠ 0) = false := by rw [decide_eq_false_iff_not]; exact fun e => e h
  rw [if_pos h]; simp only [List.filter_cons, h2, List.filter_nil]; rfl
 ·have h2 : decide ((gs ns k).size ≠ 0) = true := by rw [decide_eq_true_eq]; exact h
  rw [if_neg h]; simp only [List.filter_cons, h2, List.filter_nil]; rfl
theorem y8 (ns : List ByteArray) (k : Nat) : (gy ns k).length ≤ k := by
 unfold gy; rw [List.length_map]; exact Nat.le_trans (List.length_filter_le _ _) (by simp)
end
section
def bG (ps : List Int) (n k : Nat) : List Nat := (List.range k).filter fun i => decide (n < i) && gi ps i == (n : Int)
def bu (ps : List Int) (n : Nat) : List Nat := bG ps n ps.length
def er (l : List Nat) : List Int := l.map fun (i : Nat) => (i : Int)
theorem kV (ps : List Int) (n k : Nat) : bG ps n (k + 1) = bG ps n k ++ (if n < k ∧ gi ps k = n then [k] else []) := by
 unfold bG
 rw [List.range_succ, List.filter_append]
 congr 1
 by_cases h : n < k ∧ gi ps k = n
 ·rw [if_pos h]; simp [h.1, h.2]
 ·rw [if_neg h]
  have : (decide (n < k) && gi ps k == (n : Int)) = false := by
   rw [Bool.eq_false_iff]; intro e; apply h; simpa using e
  simp [this]
theorem Jt (ps : List Int) (n : Nat) : bG ps n (n + 1) = [] := by
 unfold bG
 rw [List.filter_eq_nil_iff]; intro a ha; have := List.mem_range.1 ha; simp; omega
theorem o9 (ps : List Int) (n k : Nat) : (bG ps n k).length ≤ k := by
 unfold bG; exact Nat.le_trans (List.length_filter_le _ _) (by simp)
theorem bH {ps : List Int} {n i : Nat} : i ∈ bu ps n ↔ i < ps.length ∧ n < i ∧ gi ps i = n := by
 unfold bu bG; rw [List.mem_filter, List.mem_range]; simp
theorem E2 (a b : List Nat) : er (a ++ b) = er a ++ er b := List.map_append
theorem j9 {ps : List Int} (h : fK ps = true) (n : Nat) : bu ps n ≠ [] ↔ isIn ps n = true := by
 constructor
 ·intro hne
  obtain ⟨i, hi⟩ := List.exists_mem_of_ne_nil _ hne
  obtain ⟨h1, h2, h3⟩ := bH.1 hi
  exact List.any_eq_true.2 ⟨i, List.mem_range.2 h1, by simp [h3]; omega⟩
 ·intro hin
  obtain ⟨i, hi, h2⟩ := List.any_eq_true.1 hin
  have hi := List.mem_range.1 hi
  simp at h2
  have := yG h hi
  unfold mH at this
  rw [if_neg (by omega)] at this
  simp at this
  exact List.ne_nil_of_mem (bH.2 ⟨hi, by omega, h2.2⟩)
end
section
theorem any_none {p : Nat → Bool} {n : Nat} (h : ∀ j, j < n → p j = false) : (List.range n).any p = false := by
 rw [Bool.eq_false_iff]; intro e
 obtain ⟨j, hj, hp⟩ := List.any_eq_true.1 e
 rw [h j (List.mem_range.1 hj)] at hp; cases hp
theorem AW {p : Nat → Bool} {n k : Nat} (hk : k < n) (hp : p k = true) : (List.range n).any p = true := List.any_eq_true.2 ⟨k, List.mem_range.2 hk, hp⟩
theorem any_false {p : Nat → Bool} {n : Nat} (h : (List.range n).any p = false) {k : Nat} (hk : k < n) : p k = false := by
 cases e : p k with
 | false => rfl
 | true => rw [AW hk e] at h; cases h
end
section
end
section
section
variable {n m : Nat} {par own : Nat → Int} {cost : Nat → Nat → Int}
end
end
section
section
variable {n m : Nat} {par own : Nat → Int} {cost : Nat → Nat → Int}
end
end
section
end
section
theorem aH {t : aA} (h : aB t = 0) : 0 < t.ps.length ∧ t.ps.length ≤ 64 ∧ t.ns.length = t.ps.length ∧ fK t.ps = true ∧ ∀ i, i < t.ps.length → iR t.ps t.ns i = 0 := by
 unfold aB at h
 split at h
 ·cases h
 ·split at h
  ·cases h
  ·split at h
   ·cases h
   ·split at h
    ·exact ⟨by omega, by omega, by omega, ‹_›, iH h⟩
    ·cases h
theorem jQ {ns : List ByteArray} {x : Int} : x ∈ aV ns ↔ ∃ i : Nat, x = i ∧ i < ns.length ∧ (gs ns i).size ≠ 0 := by
 unfold aV
 rw [List.mem_map]
 constructor
 ·rintro ⟨i, hi, rfl⟩
  rw [List.mem_filter, List.mem_range] at hi
  exact ⟨i, rfl, hi.1, by simpa using hi.2⟩
 ·rintro ⟨i, rfl, h1, h2⟩
  exact ⟨i, by rw [List.mem_filter, List.mem_range]; exact ⟨h1, by simpa using h2⟩, rfl⟩
theorem Ju (ns : List ByteArray) : (aV ns).length ≤ ns.length := by
 unfold aV; rw [List.length_map]; exact Nat.le_trans (List.length_filter_le _ _) (by simp)
theorem pg {l : List Int} {k : Nat} (h : k < l.length) : gi l k ∈ l := by simp [gi, h]
theorem Nx {ps : List Int} (h : fK ps = true) {c : Nat} (hc : c < ps.length) : gi ps c < c ∧ (0 < c → 0 ≤ gi ps c) ∧ (c = 0 → gi ps c = -1) := by
 have := yG h hc
 unfold mH at this
 split at this
 ·simp at this; omega
 ·simp at this; omega
theorem tG {t : aA} (h : aB t = 0) {i c : Nat} (hc : c < t.ps.length) (hi : i < c) (hp : gi t.ps c = i) : (gs t.ns i).size = 0 := by
 obtain ⟨_, _, _, hok, hn⟩ := aH h
 have hin : isIn t.ps i = true := List.any_eq_true.2 ⟨c, List.mem_range.2 hc, by simp [hp]; omega⟩
 have := hn i (by omega)
 unfold iR at this
 rw [if_pos hin] at this
 by_cases e : (gs t.ns i).size = 0
 ·exact e
 ·rw [if_neg e] at this; cases this
theorem uR {t : aA} (h : aB t = 0) {i : Nat} (hi : i < t.ps.length) (hin : isIn t.ps i = false) : bq (gs t.ns i).data.toList = true ∧ cZ t.ns i = false := by
 obtain ⟨_, _, _, hok, hn⟩ := aH h
 have := hn i hi
 unfold iR at this
 rw [hin] at this
 cases h1 : bq (gs t.ns i).data.toList
 ·rw [h1] at this; cases this
 ·cases h2 : cZ t.ns i
  ·exact ⟨rfl, rfl⟩
  ·rw [h1, h2] at this; cases this
end
section
section
variable {t : aA} {st : List Int} {cs : List (List Int)}
end
end
section
end
section
section
variable {n m : Nat} {par own own' : Nat → Int} {cost : Nat → Nat → Int}
end
end
section
theorem Q2 {ns : List ByteArray} {i : Nat} (hi : i < (aV ns).length) : ∃ k : Nat, gi (aV ns) i = k ∧ k < ns.length ∧ (gs ns k).size ≠ 0 := by
 obtain ⟨k, e, h1, h2⟩ := jQ.1 (pg hi)
 exact ⟨k, e, h1, h2⟩
section
variable {t : aA} {st : List Int} {cs : List (List Int)}
end
end
section
end
section
end
section
open Go.RowKit Go.Deep

def av (S : Nat → Prop) (w : World) (v : Value) (n : Nat) (f : Nat → Value) : Prop :=
 ∃ p cap, v = .slice p n cap ∧ n ≤ cap ∧ (n = 0 ∨ ∃ b off, p = some ⟨b, off, none⟩ ∧ S b ∧ ∀ k, k < n → w.cell? ⟨b, off + k, none⟩ = some (f k))
def af (S : Nat → Prop) (w : World) (v : Value) (xs : List Int) : Prop := av S w v xs.length (fun k => .int .i64 (gi xs k))
def ay (S : Nat → Prop) (w : World) (v : Value) (xs : List ByteArray) : Prop := av S w v xs.length (fun k => .string (gs xs k))
def aJ (S : Nat → Prop) (w : World) (v : Value) (xs : List (List Int)) : Prop := ∃ f, av S w v xs.length f ∧ ∀ k, k < xs.length → af S w (f k) (gl xs k)
def aG (S : Nat → Prop) (w : World) (v : Value) (t : aA) : Prop := ∃ P N, v = .agg #[P, N] ∧ af S w P t.ps ∧ ay S w N t.ns

def Kept (S : Nat → Prop) (w w' : World) : Prop := ∀ b, S b → b < w.heap.size → w'.heap[b]? = w.heap[b]?
def Any (_ : Nat) : Prop := True

theorem av.keep {S : Nat → Prop} {w w' : World} {v : Value} {n : Nat} {f : Nat → Value} (h : av S w v n f) (k : Kept S w w') : av S w' v n f := by
 obtain ⟨p, cap, rfl, hn, h⟩ := h
 refine ⟨p, cap, rfl, hn, ?_⟩
 rcases h with h | ⟨b, off, rfl, hS, h⟩
 ·exact .inl h
 ·refine .inr ⟨b, off, rfl, hS, fun i hi => ?_⟩
  have hlt : b < w.heap.size := World.block_lt_of_cell? w _ (h i hi)
  rw [World.cell?_of_block (a := ⟨b, off + i, none⟩) (k b hS hlt)]
  exact h i hi
theorem af.keep {S : Nat → Prop} {w w' : World} {v : Value} {xs : List Int} (h : af S w v xs) (k : Kept S w w') : af S w' v xs := av.keep h k
theorem ay.keep {S : Nat → Prop} {w w' : World} {v : Value} {xs : List ByteArray} (h : ay S w v xs) (k : Kept S w w') : ay S w' v xs := av.keep h k
theorem aJ.keep {S : Nat → Prop} {w w' : World} {v : Value} {xs : List (List Int)} (h : aJ S w v xs) (k : Kept S w w') : aJ S w' v xs := by
 obtain ⟨f, h, hr⟩ := h
 exact ⟨f, h.keep k, fun i hi => (hr i hi).keep k⟩
theorem aG.keep {S : Nat → Prop} {w w' : World} {v : Value} {t : aA} (h : aG S w v t) (k : Kept S w w') : aG S w' v t := by
 obtain ⟨P, N, rfl, h1, h2⟩ := h
 exact ⟨P, N, rfl, h1.keep k, h2.keep k⟩
theorem av.sub {S T : Nat → Prop} {w : World} {v : Value} {n : Nat} {f : Nat → Value} (h : av S w v n f) (k : ∀ b, S b → b < w.heap.size → T b) : av T w v n f := by
 obtain ⟨p, cap, rfl, hn, h⟩ := h
 refine ⟨p, cap, rfl, hn, ?_⟩
 rcases h with h | ⟨b, off, rfl, hS, h⟩
 ·exact .inl h
 ·by_cases hn0 : n = 0
  ·exact .inl hn0
  ·exact .inr ⟨b, off, rfl, k b hS (World.block_lt_of_cell? w _ (h 0 (by omega))), h⟩
theorem af.sub {S T : Nat → Prop} {w : World} {v : Value} {xs : List Int} (h : af S w v xs) (k : ∀ b, S b → b < w.heap.size → T b) : af T w v xs := av.sub h k
theorem ay.sub {S T : Nat → Prop} {w : World} {v : Value} {xs : List ByteArray} (h : ay S w v xs) (k : ∀ b, S b → b < w.heap.size → T b) : ay T w v xs := av.sub h k
theorem aJ.sub {S T : Nat → Prop} {w : World} {v : Value} {xs : List (List Int)} (h : aJ S w v xs) (k : ∀ b, S b → b < w.heap.size → T b) : aJ T w v xs := by
 obtain ⟨f, h, hr⟩ := h
 exact ⟨f, h.sub k, fun i hi => (hr i hi).sub k⟩
theorem Kept.below {S : Nat → Prop} {a b : World} (h : Below a.heap.size a b) : Kept S a b := fun i _ hl => h.block i hl
theorem av.open {S : Nat → Prop} {w : World} {v : Value} {n : Nat} {f : Nat → Value} (h : av S w v n f) :
  ∃ p cap, v = .slice p n cap ∧ n ≤ cap ∧ ∀ k, k < n → ∃ b off, p = some ⟨b, off, none⟩ ∧ w.cell? ⟨b, off + k, none⟩ = some (f k) := by
 obtain ⟨p, cap, rfl, hn, h⟩ := h
 refine ⟨p, cap, rfl, hn, fun k hk => ?_⟩
 rcases h with h | ⟨b, off, rfl, _, h⟩
 ·omega
 ·exact ⟨b, off, rfl, h k hk⟩
theorem below_drewN {B : Nat} {a w : World} (h : Below B a w) (n : Nat) : Below B a (w.drewN n) := ⟨h.os, h.tape, h.output, h.size, h.block⟩
theorem aI {k : IntKind} {a b : Int} (h : a = b) : Ending.returned (.int k a) = .returned (.int k b) := by rw [h]
theorem aO {a b : Bool} (h : a = b) : Ending.returned (.bool a) = .returned (.bool b) := by rw [h]
end
end Go.Proofs.YtpnmblnahjjmhaaGreat
namespace Go.Proofs
open Go.Shelf
def Tryz.lays106_ren : Go.Shelf.Ren := ⟨fun | 106 => 251 | 213 => 291 | 265 => 312 | n => n, fun | 9 => 9 | 3 => 3 | n => n, fun | n => n⟩
theorem Tryz.lays106 : Go.Proofs.Lays.n106 Tryz.prog Tryz.lays106_ren := {
 mixed := by kernel_rfl
 f106 := Tryz.func251.trans (congrArg some (by kernel_rfl))
 f213 := Tryz.func291.trans (congrArg some (by kernel_rfl))
 f265 := Tryz.func312.trans (congrArg some (by kernel_rfl))
 t3 := Tryz.underlying3
 a3 := Tryz.isAgg3
 z3 := Tryz.sizeOf3
 v3 := Tryz.zeroValue3
 t9 := Tryz.underlying9
 a9 := Tryz.isAgg9
 z9 := Tryz.sizeOf9
 v9 := Tryz.zeroValue9 }
open Go.RowKit in
theorem Tryz.strings_Compare (a b : ByteArray) (w : World) :
  Calls Tryz.prog 251 #[.string a, .string b] w fun e w' => e = .returned (.int .i64 (Lib.compareBytes a.data.toList b.data.toList)) ∧ w' = w := Any.strings_Compare Tryz.lays106 a b w
def Tryz.lays137_ren : Go.Shelf.Ren := ⟨fun | 137 => 281 | 217 => 301 | 266 => 316 | n => n, fun | 9 => 9 | 5 => 5 | 3 => 3 | n => n, fun | n => n⟩
theorem Tryz.lays137 : Go.Proofs.Lays.n137 Tryz.prog Tryz.lays137_ren := {
 mixed := by kernel_rfl
 f137 := Tryz.func281.trans (congrArg some (by kernel_rfl))
 f217 := Tryz.func301.trans (congrArg some (by kernel_rfl))
 f266 := Tryz.func316.trans (congrArg some (by kernel_rfl))
 t3 := Tryz.underlying3
 a3 := Tryz.isAgg3
 z3 := Tryz.sizeOf3
 v3 := Tryz.zeroValue3
 t5 := Tryz.underlying5
 a5 := Tryz.isAgg5
 z5 := Tryz.sizeOf5
 v5 := Tryz.zeroValue5
 t9 := Tryz.underlying9
 a9 := Tryz.isAgg9
 z9 := Tryz.sizeOf9
 v9 := Tryz.zeroValue9 }
open Go.RowKit in
theorem Tryz.strings_IndexByte (s : ByteArray) (c : Int) (w : World) :
  Calls Tryz.prog 281 #[.string s, .int .u8 c] w fun e w' => e = .returned (.int .i64 (Lib.indexByte s.data.toList c.toNat.toUInt8)) ∧ w' = w := Any.strings_IndexByte Tryz.lays137 s c w
end Go.Proofs
namespace Go.Proofs.YtpnmblnahjjmhaaGreat
section
open Go.RowKit Go.Deep
def Wp : ByteArray := ⟨#[46, 44, 59, 58, 33, 63, 40, 41, 45]⟩
theorem Wq : ∀ c, c < 256 → (decide (0 ≤ Lib.indexByte Wp.data.toList c.toUInt8)) = uQ c := by
 decide +kernel
theorem ofk {a b : Int} (h : a = b) {w w' : World} (hw : w = w') : Ending.returned (.int .i64 a) = .returned (.int .i64 b) ∧ w = w' := ⟨by rw [h], hw⟩
theorem Vq {c : Nat} {x : Int} (hc : c < 256) (hx : Lib.indexByte [46, 44, 59, 58, 33, 63, 40, 41, 45] ((c : Int).toNat).toUInt8 = x) : 0 ≤ x ↔ uQ c = true := by
 have h := Wq c hc
 rw [← h, ← hx]; simp [Wp]
set_option maxHeartbeats 400000 in
theorem Ws (c : Nat) (hc : c < 256) (w : World) : Calls Tryz.prog 273 #[.int .u8 c] w fun e w' => e = .returned (.int .i64 (cW c)) ∧ w = w' := by
 go_enter Tryz.func273, Tryz.ntmps273
 go_wp2_with (go_at_call 281; refine (Tryz.strings_IndexByte _ _ _).mono ?_; rintro e w' ⟨rfl, rfl⟩; generalize hx : Lib.indexByte _ _ = x)
 all_goals (try go_ret)
 all_goals (refine ofk ?_ rfl)
 all_goals (first | (have h5 := Vq hc ‹Lib.indexByte _ _ = _›; unfold cW isLet; by_cases hp : uQ c = true <;> simp only [hp] at * <;> simp at * <;> omega) | (simp [cW, isLet, uQ] at *; done) | (simp [cW, isLet, uQ] at *; omega))
end
section
open Go.RowKit Go.Deep
theorem qV (c : UInt8) : (cW c.toNat = 1 ∨ cW c.toNat = 3) ↔ qU c = true := by
 unfold cW qU isLet; simp only [Bool.or_eq_true, Bool.and_eq_true, decide_eq_true_eq]
 repeat' split
 all_goals simp at *
 all_goals omega
theorem CB (l : List UInt8) : jC l ≤ l.length := List.countP_le_length
theorem Ny (l : List UInt8) (c : UInt8) : jC (l ++ [c]) = jC l + if qU c then 1 else 0 := by
 simp [jC, List.countP_append, List.countP_cons]
theorem Nz (s : ByteArray) (k : Nat) (h : k < s.size) : s.data.toList.take (k + 1) = s.data.toList.take k ++ [s[k]] := by
 rw [List.take_succ_eq_append_getElem (by simpa using h)]; rfl
theorem Fk (l : List UInt8) : jC l = l.length ↔ l.all qU = true := by
 simp [jC, List.countP_eq_length]
theorem wR (s : ByteArray) (k : Nat) (h : k < s.size) : jC (s.data.toList.take (k + 1)) = jC (s.data.toList.take k) + if qU s[k] then 1 else 0 := by
 rw [Nz s k h, Ny]
set_option maxHeartbeats 400000 in
theorem NA (s : ByteArray) (hs : s.size ≤ 70000) (w : World) : Calls Tryz.prog 217 #[.string s] w fun e w' => e = .returned (.int .i64 (jC s.data.toList)) ∧ w = w' := by
 go_enter Tryz.func217, Tryz.ntmps217
 go_wp2
 go_loop [3, 4, 5, 8] (fun n _ _ i => ∃ k : Nat, k ≤ s.size ∧ i = .int .i64 k ∧ n = .int .i64 (jC (s.data.toList.take k))) (fun _ _ _ i => s.size - (intOf i).toNat)
 case atStart => exact ⟨0, Nat.zero_le _, rfl, rfl⟩
 case round =>
  obtain ⟨k, hk, rfl, rfl⟩ := hrel
  have hb : jC (s.data.toList.take k) ≤ 70000 := Nat.le_trans (CB _) (by simp; omega)
  by_cases hlt : k < s.size
  ·have hst := wR s k hlt
   have hk' := qV s[k]
   have hc : s[k].toNat < 256 := s[k].toNat_lt
   generalize hm : jC (s.data.toList.take k) = m at *
   have HS := aa hst
   have HK := aa hk'
   clear hst hm hk'
   go_wp2_with (go_at_call 273; refine (Ws _ hc _).mono ?_; rintro e w' ⟨rfl, rfl⟩; generalize cW _ = q at *)
   all_goals
    go_round
    case rel => exact ⟨k + 1, by omega, by go_num, by rw [HS.out]; first | (rw [if_pos (HK.out.1 (by first | omega | (simp only [beq_iff_eq] at *; omega)))]; go_num) | (rw [if_neg (fun h => by have := HK.out.2 h; simp only [beq_eq_false_iff_ne, ne_eq] at *; omega)]; go_num)⟩
    case measure => simp [intOf]; omega
  ·go_wp2
   go_ret
   exact ⟨aI (by rw [List.take_of_length_le (by simp; omega)]), rfl⟩
set_option maxHeartbeats 400000 in
theorem qW (s : ByteArray) (hs : s.size ≤ 70000) (w : World) : Calls Tryz.prog 164 #[.string s] w fun e w' => e = .returned (.bool (eG s.data.toList)) ∧ w = w' := by
 have hl : s.data.toList.length = s.size := by simp
 have ha := Fk s.data.toList
 have hle := CB s.data.toList
 have he : s.data.toList = [] ↔ s.size = 0 := by rw [← List.length_eq_zero_iff, hl]
 rw [hl] at ha hle
 have HA := aa ha
 have HL := aa hl
 have HE := aa he
 clear ha hl he
 have hE1 := toList_nil s
 have cH : eG s.data.toList = decide (1 ≤ s.size ∧ s.size ≤ 16 ∧ jC s.data.toList = s.size) := by
  unfold eG; rw [HL.out, Bool.eq_iff_iff]; simp only [Bool.and_eq_true, decide_eq_true_eq]; rw [← HA.out, and_assoc]
 have HF := aa cH
 have JT := aa hE1
 clear cH hE1 HA HL HE
 generalize hm : jC s.data.toList = m at *
 have HM := aa hm
 clear hm
 go_enter Tryz.func164, Tryz.ntmps164
 go_wp2_with (go_at_call 217; refine (NA _ hs _).mono ?_; rintro e w' ⟨rfl, rfl⟩; rw [HM.out])
 all_goals go_ret
 all_goals refine ⟨aO ?_, rfl⟩
 all_goals rw [HF.out]
 ·have := JT.out.1 ‹_›; simp; omega
 ·have hne : ¬ s.size = 0 := fun h => ‹¬ s.toList = []› (JT.out.2 h)
  have uS : s.toList.isEmpty = false := by simpa using ‹¬ s.toList = []›
  rw [Bool.eq_iff_iff]; simp [uS]; omega
 ·simp; omega

theorem Q3 : qU 42 = false := by decide
theorem wS (l : List UInt8) (h : l.getLast? = some 42) : eG l = false := by
 obtain ⟨a, rfl⟩ := List.getLast?_eq_some_iff.1 h
 simp [eG, Q3]
theorem Fl (s : ByteArray) (h1 : 1 ≤ s.size) : (s.extract (s.size - 1) s.size).toList = [42] ↔ s.data.toList.getLast? = some 42 := by
 have hl := size_data s
 rw [toList_data, ByteArray.data_extract, Array.toList_extract, List.extract_eq_take_drop]
 generalize s.data.toList = l at *
 have hne : l ≠ [] := by intro e; rw [e] at hl; simp at hl; omega
 rw [← hl]
 clear hl h1
 obtain ⟨a, x, rfl⟩ : ∃ a x, l = a ++ [x] := ⟨l.dropLast, l.getLast hne, (List.dropLast_concat_getLast hne).symm⟩
 simp
theorem Fm (s : ByteArray) : (s.extract 0 (s.size - 1)).data.toList = s.data.toList.dropLast := by
 have hl := size_data s
 rw [ByteArray.data_extract, Array.toList_extract, List.extract_eq_take_drop, List.dropLast_eq_take, hl]
 simp
def Vr (s : ByteArray) (e : Ending) : Prop := (s.data.toList.getLast? = some 42 ∧ ∃ r : ByteArray, r.size ≤ s.size ∧ r.data.toList = s.data.toList.dropLast ∧ e = .returned (.tuple #[.string r, .bool true])) ∨ (s.data.toList.getLast? ≠ some 42 ∧ e = .returned (.tuple #[.string s, .bool false]))
set_option maxHeartbeats 400000 in
theorem Q4 (s : ByteArray) (hs : s.size ≤ 70000) (w : World) : Calls Tryz.prog 230 #[.string s, .string ⟨#[42]⟩] w fun e w' => Vr s e ∧ w = w' := by
 by_cases h0 : s.size = 0
 ·have hc : s.data.toList = [] := by rw [← toList_data]; exact (toList_nil s).2 h0
  have HC := aa hc
  clear hc
  go_enter Tryz.func230, Tryz.ntmps230
  go_wp2
  go_ret2
  exact ⟨.inr ⟨by rw [HC.out]; simp, rfl⟩, rfl⟩
 ·have h1 : 1 ≤ s.size := by omega
  clear h0
  go_enter Tryz.func230, Tryz.ntmps230
  go_wp2
  ·go_ret2
   refine ⟨.inr ⟨fun e => ?_, rfl⟩, rfl⟩
   have := (Fl s h1).2 e
   simp_all
  ·go_ret2
   have h2 := ‹(!(s.extract (s.size - 1) s.size).toList == [42]) = false›
   exact ⟨.inl ⟨(Fl s h1).1 (by simpa using h2), s.extract 0 (s.size - 1), by simp, Fm s, rfl⟩, rfl⟩
set_option maxHeartbeats 400000 in
theorem ud (s : ByteArray) (hs : s.size ≤ 70000) (w : World) : Calls Tryz.prog 174 #[.string s] w fun e w' => e = .returned (.bool (bq s.data.toList)) ∧ w = w' := by
 have hl := size_data s
 have HL := aa hl
 clear hl
 go_enter Tryz.func174, Tryz.ntmps174
 go_wp2_with fail
 refine (Q4 s hs _).mono ?_
 rintro e w' ⟨⟨h1, r, hr, hd, rfl⟩ | ⟨h1, rfl⟩, rfl⟩
 ·have hf : bq s.data.toList = (decide (s.size ≤ 16) && eG r.data.toList) := by
   unfold bq; rw [if_pos h1, hd, HL.out, Bool.and_comm]
  have HF := aa hf
  clear hf hd h1
  go_wp2_with (go_at_call 164; refine (qW r (by omega) _).mono ?_; rintro e w' ⟨rfl, rfl⟩)
  all_goals
   go_ret
   refine ⟨aO ?_, rfl⟩
   rw [HF.out, Bool.eq_iff_iff]
   simp at *
   try omega
 ·have hf : bq s.data.toList = eG s.data.toList := by unfold bq; rw [if_neg h1]
  have HF := aa hf
  clear hf h1
  go_wp2_with (go_at_call 164; refine (qW s hs _).mono ?_; rintro e w' ⟨rfl, rfl⟩)
  go_ret
  exact ⟨aO (by rw [HF.out]), rfl⟩
end
section
open Go.RowKit Go.Deep
theorem JU {x y : ByteArray} (h : (x.toList == y.toList) = true) : x = y := by
 rw [beq_iff_eq, toList_data, toList_data] at h; exact ua h
theorem NB {x y : ByteArray} (h : (x.toList == y.toList) = false) : ¬ x = y := by
 rintro rfl; simp at h
set_option maxHeartbeats 400000 in
theorem y9 (S : Nat → Prop) (w : World) (v : Value) (n : Nat) (f : Nat → ByteArray) (x : ByteArray) (h : av S w v n (fun k => .string (f k))) (hn : n ≤ 1000000) :
  Calls Tryz.prog 131 #[v, .string x] w fun e w' => e = .returned (.int .i64 (cE (fun j => decide (x = f j)) n)) ∧ w = w' := by
 obtain ⟨p, cap, rfl, hcap, H⟩ := h.open
 clear h
 go_enter Tryz.func131, Tryz.ntmps131
 go_wp2
 go_loop [5, 8] (fun _ i => ∃ k : Nat, k ≤ n ∧ i = .int .i64 k ∧ Hid (∀ j, j < k → decide (x = f j) = false)) (fun _ i => n - (intOf i).toNat)
 case atStart => exact ⟨0, Nat.zero_le _, rfl, fun j hj => absurd hj (Nat.not_lt_zero _)⟩
 case round =>
  obtain ⟨k, hk, rfl, hd⟩ := hrel
  by_cases hlt : k < n
  ·obtain ⟨b, off, rfl, hc⟩ := H k hlt
   clear H
   go_wp2
   ·have hx := JU ‹(x.toList == (f k).toList) = true›
    go_ret
    exact ⟨aI (fS (p := fun j => decide (x = f j)) hlt hd.out (by simpa using hx)).symm, rfl⟩
   ·have hx := NB ‹(x.toList == (f k).toList) = false›
    go_round
    case rel => exact ⟨k + 1, by omega, by go_num, fun j hj => if e : j = k then by subst e; simpa using hx else hd.out j (by omega)⟩
    case measure => simp [intOf]; omega
  ·clear H
   go_wp2
   go_ret
   exact ⟨aI (dP fun j hj => hd.out j (by omega)).symm, rfl⟩
set_option maxHeartbeats 400000 in
theorem gW (S : Nat → Prop) (w : World) (v : Value) (n : Nat) (f : Nat → ByteArray) (x : ByteArray) (h : av S w v n (fun k => .string (f k))) (hn : n ≤ 1000000) :
  Calls Tryz.prog 51 #[v, .string x] w fun e w' => e = .returned (.bool ((List.range n).any fun j => decide (x = f j))) ∧ w = w' := by
 have hx := fT (fun j => decide (x = f j)) n
 have HX := aa hx
 clear hx
 go_enter Tryz.func51, Tryz.ntmps51
 go_wp2_with (go_at_call 131; refine (y9 S w v n f x h hn).mono ?_; rintro e w' ⟨rfl, rfl⟩)
 go_ret
 exact ⟨aO (by rw [← HX.out]), rfl⟩
end
end Go.Proofs.YtpnmblnahjjmhaaGreat
