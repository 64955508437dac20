/- Sets and splits: what intset and split compute. Plain. PhylotreeRerooted, plain. The .. -/
import Derived.Test.YtpnmblnahjjmhaaGreatQ1
import Derived.Test.YtpnmblnahjjmhaaGreatQ27
import Derived.Test.YtpnmblnahjjmhaaGreatQ21
import Derived.Shelf.SlGeneric
import Derived.Shelf.Slices.SearchI
import Derived.Ground.Names2Prog
import Derived.Test.YtpnmblnahjjmhaaGreatProg
import Derived.Test.YtpnmblnahjjmhaaGreatQ20
import Derived.Test.YtpnmblnahjjmhaaGreatQ19
set_option maxRecDepth 100000
namespace Go.Proofs.YtpnmblnahjjmhaaGreat
section
def gI (l : List Int) (i : Nat) : Int := if gi l i < 0 ∨ 63 < gi l i then 2 else if 0 < i ∧ gi l i ≤ gi l (i - 1) then 10 else 0
def dN (l : List Int) : Int := firstNZ (gI l) l.length
structure cz (l : List Int) : Prop where
 fF : l.Pairwise (· < ·)
 bd : ∀ x ∈ l, 0 ≤ x ∧ x ≤ 63
theorem Hg {l : List Int} (h : ∀ i, i + 1 < l.length → gi l i < gi l (i + 1)) : l.Pairwise (· < ·) := by
 have key : ∀ d i, i + d + 1 < l.length → gi l i < gi l (i + d + 1) := by
  intro d
  induction d with
  | zero => intro i hi; exact h i hi
  | succ d ih =>
   intro i hi
   have h1 := ih i (by omega)
   have h2 := h (i + d + 1) (by omega)
   rw [show i + (d + 1) + 1 = i + d + 1 + 1 by omega]
   omega
 refine List.pairwise_iff_getElem.2 fun i j hi hj hij => ?_
 have h1 := key (j - i - 1) i (by omega)
 rw [show i + (j - i - 1) + 1 = j by omega] at h1
 simpa [gi, hi, hj] using h1
theorem CY {l : List Int} (h : l.Pairwise (· < ·)) {i j : Nat} (hij : i < j) (hj : j < l.length) : gi l i < gi l j := by
 have := List.pairwise_iff_getElem.1 h i j (by omega) hj hij
 simpa [gi, hj, show i < l.length by omega] using this
theorem gi_in {l : List Int} {k : Nat} (h : k < l.length) : gi l k ∈ l := by simp [gi, h]
theorem vz {l : List Int} {x : Int} (h : x ∈ l) : ∃ k, k < l.length ∧ gi l k = x := by
 obtain ⟨k, hk, e⟩ := List.mem_iff_getElem.1 h
 exact ⟨k, hk, by simp [gi, hk, e]⟩
theorem eX {l : List Int} : dN l = 0 ↔ cz l := by
 constructor
 ·intro h
  have hb := iH h
  refine ⟨Hg fun i hi => ?_, fun x hx => ?_⟩
  ·have := hb (i + 1) hi
   unfold gI at this
   split at this
   ·cases this
   ·split at this
    ·cases this
    ·rename_i h2
     rw [Nat.add_sub_cancel] at h2
     omega
  ·obtain ⟨k, hk, e⟩ := vz hx
   have := hb k hk
   unfold gI at this
   split at this
   ·cases this
   ·omega
 ·intro h
  refine cA fun j hj => ?_
  have hb := h.bd _ (gi_in hj)
  unfold gI
  rw [if_neg (by omega), if_neg]
  rintro ⟨h1, h2⟩
  have := CY h.fF (i := j - 1) (j := j) (by omega) hj
  omega
def aF (n : Int) (s : List Int) : Int :=
 if n < 1 ∨ 32 < n then 2 else if dN s ≠ 0 then dN s else if 0 < s.length ∧ (gi s 0 = 0 ∨ n ≤ gi s (s.length - 1)) then 2 else if (s.length : Int) < 2 ∨ n - 2 < s.length then 8 else 0
structure vA (n : Int) (s : List Int) : Prop where
 n1 : 1 ≤ n ∧ n ≤ 32
 set : cz s
 bd : ∀ x ∈ s, 1 ≤ x ∧ x < n
 len : 2 ≤ s.length ∧ (s.length : Int) ≤ n - 2
theorem Hh {s : List Int} (h : cz s) {x : Int} (hx : x ∈ s) : gi s 0 ≤ x ∧ x ≤ gi s (s.length - 1) := by
 obtain ⟨k, hk, rfl⟩ := vz hx
 constructor
 ·by_cases e : k = 0
  ·subst e; exact Int.le_refl _
  ·exact Int.le_of_lt (CY h.fF (by omega) hk)
 ·by_cases e : k = s.length - 1
  ·subst e; exact Int.le_refl _
  ·exact Int.le_of_lt (CY h.fF (by omega) (by omega))
theorem gU {n : Int} {s : List Int} : aF n s = 0 ↔ vA n s := by
 constructor
 ·intro h
  unfold aF at h
  split at h
  ·cases h
  ·split at h
   ·rename_i h2; exact absurd h h2
   ·rename_i h2
    have hs := eX.1 (Classical.not_not.1 h2)
    split at h
    ·cases h
    ·rename_i h3
     split at h
     ·cases h
     ·refine ⟨by omega, hs, fun x hx => ?_, by omega⟩
      have h4 := Hh hs hx
      have h5 := hs.bd x hx
      have h6 : 0 < s.length := List.length_pos_of_mem hx
      have h7 := hs.bd _ (gi_in h6)
      omega
 ·intro h
  have h1 := h.n1
  have h2 := h.len
  unfold aF
  rw [if_neg (by omega), if_neg (fun e => e (eX.2 h.set)), if_neg, if_neg (by omega)]
  rintro ⟨h3, h4⟩
  have h5 := h.bd _ (gi_in h3)
  have h6 := h.bd _ (gi_in (l := s) (k := s.length - 1) (by omega))
  omega
def ey (p : Int → Bool) (n : Nat) : List Int := ((List.range n).map fun (i : Nat) => (i : Int)).filter p
theorem pS (p : Int → Bool) (n : Nat) : ey p (n + 1) = ey p n ++ if p n = true then [(n : Int)] else [] := by
 unfold ey
 rw [List.range_succ, List.map_append, List.filter_append]
 congr 1
 simp only [List.map_cons, List.map_nil, List.filter_cons, List.filter_nil]
theorem ja (p : Int → Bool) (n : Nat) : (ey p n).length ≤ n := by
 unfold ey; exact Nat.le_trans (List.length_filter_le _ _) (by simp)
theorem vB {p : Int → Bool} {n : Nat} {x : Int} : x ∈ ey p n ↔ 0 ≤ x ∧ x < n ∧ p x = true := by
 unfold ey
 rw [List.mem_filter, List.mem_map]
 constructor
 ·rintro ⟨⟨i, hi, rfl⟩, h2⟩
  have := List.mem_range.1 hi
  exact ⟨by omega, by omega, h2⟩
 ·rintro ⟨h0, h1, h2⟩
  obtain ⟨i, rfl⟩ := Int.eq_ofNat_of_zero_le h0
  exact ⟨⟨i, List.mem_range.2 (by omega), rfl⟩, h2⟩
theorem jb (p : Int → Bool) (n : Nat) : (ey p n).Pairwise (· < ·) := by
 refine List.Pairwise.filter _ ?_
 rw [List.pairwise_map]
 exact List.pairwise_lt_range.imp fun h => by omega
theorem k7 {a b : List Int} (ha : a.Pairwise (· < ·)) (hb : b.Pairwise (· < ·)) (h : ∀ x, x ∈ a ↔ x ∈ b) : a = b := by
 induction a generalizing b with
 | nil =>
  cases b with
  | nil => rfl
  | cons y b => exact absurd ((h y).2 (by simp)) (by simp)
 | cons x a ih =>
  cases b with
  | nil => exact absurd ((h x).1 (by simp)) (by simp)
  | cons y b =>
   rw [List.pairwise_cons] at ha hb
   have e : x = y := by
    have h1 := (h x).1 (by simp)
    have h2 := (h y).2 (by simp)
    rw [List.mem_cons] at h1 h2
    rcases h1 with h1 | h1
    ·exact h1
    ·rcases h2 with h2 | h2
     ·exact h2.symm
     ·have := ha.1 y h2; have := hb.1 x h1; omega
   subst e
   congr 1
   refine ih ha.2 hb.2 fun z => ?_
   constructor
   ·intro hz
    have h1 := (h z).1 (by simp [hz])
    rw [List.mem_cons] at h1
    rcases h1 with rfl | h1
    ·have := ha.1 _ hz; omega
    ·exact h1
   ·intro hz
    have h1 := (h z).2 (by simp [hz])
    rw [List.mem_cons] at h1
    rcases h1 with rfl | h1
    ·have := hb.1 _ hz; omega
    ·exact h1
def eO (a b : List Int) : List Int := ey (fun x => a.contains x && b.contains x) 64
def aS (n : Int) (a : List Int) : List Int := ey (fun x => !a.contains x) n.toNat
theorem gj {a b : List Int} (ha : cz a) {x : Int} : x ∈ eO a b ↔ x ∈ a ∧ x ∈ b := by
 unfold eO
 rw [vB]
 simp only [Bool.and_eq_true, List.contains_iff_mem]
 exact ⟨fun h => h.2.2, fun h => by have := ha.bd x h.1; exact ⟨by omega, by omega, h⟩⟩
theorem iN {n : Int} {a : List Int} {x : Int} : x ∈ aS n a ↔ 0 ≤ x ∧ x < n ∧ x ∉ a := by
 unfold aS
 rw [vB]
 constructor
 ·rintro ⟨h1, h2, h3⟩
  exact ⟨h1, by omega, fun h => by rw [List.contains_iff_mem.2 h] at h3; cases h3⟩
 ·rintro ⟨h1, h2, h3⟩
  refine ⟨h1, by omega, ?_⟩
  cases e : a.contains x with
  | false => rfl
  | true => exact absurd (List.contains_iff_mem.1 e) h3
theorem xV {a : List Int} (h : a.Pairwise (· < ·)) : a.Nodup := h.imp fun h e => by omega
theorem BZ {a b : List Int} (ha : a.Pairwise (· < ·)) (hb : b.Pairwise (· < ·)) (h : ∀ x ∈ a, x ∈ b) : b.filter (fun x => a.contains x) = a :=
 k7 (hb.filter _) ha fun x => by
  rw [List.mem_filter, List.contains_iff_mem]
  exact ⟨fun e => e.2, fun e => ⟨h x e, e⟩⟩
theorem dH {a b : List Int} (ha : a.Pairwise (· < ·)) (hb : b.Pairwise (· < ·)) (h : ∀ x ∈ a, x ∈ b) : a.length ≤ b.length := by
 rw [← BZ ha hb h]; exact List.length_filter_le _ _
theorem jH {a b : List Int} (ha : a.Pairwise (· < ·)) (hb : b.Pairwise (· < ·)) (h : ∀ x ∈ a, x ∈ b) (hl : a.length = b.length) : ∀ x ∈ b, x ∈ a := by
 have h1 := BZ ha hb h
 have h2 : (b.filter (fun x => a.contains x)).length = b.length := by rw [h1, hl]
 exact fun x hx => List.contains_iff_mem.1 (List.length_filter_eq_length_iff.1 h2 x hx)
def dU (a b : List Int) : Bool := decide ((eO a b).length = 0) || decide ((eO a b).length = a.length) || decide ((eO a b).length = b.length)
theorem k8 (a b : List Int) : (eO a b).Pairwise (· < ·) := jb _ _
theorem s6 {a b : List Int} (ha : cz a) (hb : cz b) : dU a b = true ↔ (∀ x ∈ a, x ∉ b) ∨ (∀ x ∈ a, x ∈ b) ∨ (∀ x ∈ b, x ∈ a) := by
 unfold dU
 simp only [Bool.or_eq_true, decide_eq_true_eq]
 have e0 : (eO a b).length = 0 ↔ ∀ x ∈ a, x ∉ b := by
  rw [List.length_eq_zero_iff]
  constructor
  ·intro h x h1 h2
   have := (gj ha).2 ⟨h1, h2⟩
   rw [h] at this; cases this
  ·intro h
   refine List.eq_nil_iff_forall_not_mem.2 fun x hx => ?_
   obtain ⟨h1, h2⟩ := (gj ha).1 hx
   exact h x h1 h2
 have e1 : (eO a b).length = a.length ↔ ∀ x ∈ a, x ∈ b := by
  constructor
  ·intro h x hx
   exact ((gj ha).1 (jH (k8 a b) ha.fF (fun y hy => ((gj ha).1 hy).1) h x hx)).2
  ·intro h
   have h1 := dH (k8 a b) ha.fF (b := a) fun y hy => ((gj ha).1 hy).1
   have h2 := dH ha.fF (k8 a b) fun y hy => (gj ha).2 ⟨hy, h y hy⟩
   omega
 have e2 : (eO a b).length = b.length ↔ ∀ x ∈ b, x ∈ a := by
  constructor
  ·intro h x hx
   exact ((gj ha).1 (jH (k8 a b) hb.fF (fun y hy => ((gj ha).1 hy).2) h x hx)).1
  ·intro h
   have h1 := dH (k8 a b) hb.fF fun y hy => ((gj ha).1 hy).2
   have h2 := dH hb.fF (k8 a b) fun y hy => (gj ha).2 ⟨h y hy, hy⟩
   omega
 rw [e0, e1, e2, or_assoc]
def dV (l : List (List Int)) (i : Nat) : Int := cE (fun k => decide (i < k) && !dU (gl l i) (gl l k)) l.length
def eC (l : List (List Int)) : Int := cE (fun i => decide (0 ≤ dV l i)) l.length
def B3 (l : List (List Int)) : Int := dV l (eC l).toNat
end
section
section
variable {t : aA}
def eR (ns : List ByteArray) (a : ByteArray) : Int := cE (fun j => decide (a = gs ns j)) ns.length
theorem VQ {ns : List ByteArray} {a : ByteArray} : a ∈ mB ns ↔ ∃ j, j < ns.length ∧ gs ns j = a ∧ a.size ≠ 0 := by
 unfold mB
 rw [List.mem_filter]
 constructor
 ·rintro ⟨h1, h2⟩
  obtain ⟨j, hj, e⟩ := List.mem_iff_getElem.1 h1
  exact ⟨j, hj, by rw [← e]; simp [gs, hj], of_decide_eq_true h2⟩
 ·rintro ⟨j, hj, e, h2⟩
  refine ⟨?_, decide_eq_true h2⟩
  have : gs ns j = ns[j] := by simp [gs, hj]
  rw [← e, this]; exact List.getElem_mem hj
end
section
variable {t : aA} {la : Nat}
end
end
section
section
variable {t : aA} {L : List Int}
end
end
end Go.Proofs.YtpnmblnahjjmhaaGreat
namespace Go.Proofs
open Go.Shelf
def Tryz.bsI_ren : Go.Shelf.Ren := ⟨fun | 25 => 227 | 31 => 212 | 32 => 277 | 37 => 167 | n => n, fun | 22 => 26 | 3 => 3 | 4 => 4 | 40 => 171 | 0 => 0 | n => n, fun | n => n⟩
theorem Tryz.bsI : Go.Proofs.Lays2.n25 Tryz.prog Tryz.bsI_ren := {
 mixed := by kernel_rfl
 f25 := Tryz.func227.trans (congrArg some (by kernel_rfl))
 f31 := Tryz.func212.trans (congrArg some (by kernel_rfl))
 f32 := Tryz.func277.trans (congrArg some (by kernel_rfl))
 f37 := Tryz.func167.trans (congrArg some (by kernel_rfl))
 t0 := Tryz.underlying0
 a0 := Tryz.isAgg0
 z0 := Tryz.sizeOf0
 v0 := Tryz.zeroValue0
 t3 := Tryz.underlying3
 a3 := Tryz.isAgg3
 z3 := Tryz.sizeOf3
 v3 := Tryz.zeroValue3
 t4 := Tryz.underlying4
 a4 := Tryz.isAgg4
 z4 := Tryz.sizeOf4
 v4 := Tryz.zeroValue4
 t22 := Tryz.underlying26
 a22 := Tryz.isAgg26
 z22 := Tryz.sizeOf26
 v22 := Tryz.zeroValue26
 t40 := Tryz.underlying171
 a40 := Tryz.isAgg171
 z40 := Tryz.sizeOf171
 v40 := Tryz.zeroValue171 }
end Go.Proofs
namespace Go.Proofs.YtpnmblnahjjmhaaGreat
section
def cmpL : List Int → List Int → Int
 | [], [] => 0
 | [], _ :: _ => -1
 | _ :: _, [] => 1
 | a :: a1, b :: bs => if a < b then -1 else if b < a then 1 else cmpL a1 bs
theorem s7 : ∀ a : List Int, cmpL a a = 0
 | [] => rfl
 | a :: a1 => by rw [cmpL, if_neg (by omega), if_neg (by omega)]; exact s7 a1
theorem iO : ∀ {a b : List Int}, cmpL a b = 0 → a = b
 | [], [], _ => rfl
 | [], _ :: _, h => by rw [cmpL] at h; omega
 | _ :: _, [], h => by rw [cmpL] at h; omega
 | a :: a1, b :: bs, h => by
  rw [cmpL] at h
  split at h
  ·omega
  ·split at h
   ·omega
   ·rw [iO h]; congr 1; omega
theorem jB : ∀ a b : List Int, cmpL b a = - cmpL a b
 | [], [] => rfl
 | [], _ :: _ => rfl
 | _ :: _, [] => rfl
 | a :: a1, b :: bs => by
  rw [cmpL, cmpL]
  by_cases h1 : a < b
  ·simp only [if_pos h1, if_neg (show ¬ b < a by omega)]; rfl
  ·by_cases h2 : b < a
   ·simp only [if_pos h2, if_neg h1]
   ·rw [if_neg h1, if_neg h2, if_neg h2, if_neg h1]; exact jB a1 bs
theorem nR : ∀ {a b c : List Int}, cmpL a b < 0 → cmpL b c < 0 → cmpL a c < 0
 | [], [], c, h, _ => by rw [cmpL] at h; omega
 | [], _ :: _, [], _, h => by rw [cmpL] at h; omega
 | [], _ :: _, _ :: _, _, _ => by rw [cmpL]; omega
 | _ :: _, [], _, h, _ => by rw [cmpL] at h; omega
 | _ :: _, _ :: _, [], _, h => by rw [cmpL] at h; omega
 | a :: a1, b :: bs, c :: cs, h1, h2 => by
  rw [cmpL] at h1 h2 ⊢
  by_cases x1 : a < b
  ·by_cases y1 : b < c
   ·rw [if_pos (by omega)]; omega
   ·rw [if_neg y1] at h2
    by_cases y2 : c < b
    ·rw [if_pos y2] at h2; omega
    ·rw [if_pos (by omega)]; omega
  ·rw [if_neg x1] at h1
   by_cases x2 : b < a
   ·rw [if_pos x2] at h1; omega
   ·rw [if_neg x2] at h1
    by_cases y1 : b < c
    ·rw [if_pos (by omega)]; omega
    ·rw [if_neg y1] at h2
     by_cases y2 : c < b
     ·rw [if_pos y2] at h2; omega
     ·rw [if_neg y2] at h2
      rw [if_neg (by omega), if_neg (by omega)]
      exact nR h1 h2
def s8 (a b : List Int) : Prop := cmpL a b < 0
def s9 (a b : List Int) : Prop := cmpL a b ≤ 0
theorem Pq {a b c : List Int} (h1 : s9 a b) (h2 : s9 b c) : s9 a c := by
 unfold s9 at *
 by_cases e1 : cmpL a b = 0
 ·rw [iO e1]; exact h2
 ·by_cases e2 : cmpL b c = 0
  ·rw [← iO e2]; exact h1
  ·have h3 : cmpL a b < 0 := by omega
   have h4 : cmpL b c < 0 := by omega
   exact Int.le_of_lt (nR h3 h4)
def insX (a : List Int) : List (List Int) → List (List Int)
 | [] => [a]
 | b :: l => if cmpL a b ≤ 0 then a :: b :: l else b :: insX a l
def B4 : List (List Int) → List (List Int)
 | [] => []
 | a :: l => insX a (B4 l)
theorem xW (a : List Int) : ∀ l : List (List Int), (insX a l).Perm (a :: l)
 | [] => List.Perm.refl _
 | b :: l => by
  rw [insX]
  split
  ·exact List.Perm.refl _
  ·exact (List.Perm.cons b (xW a l)).trans (List.Perm.swap a b l)
theorem qH : ∀ l : List (List Int), (B4 l).Perm l
 | [] => List.Perm.refl _
 | a :: l => (xW a _).trans (List.Perm.cons a (qH l))
theorem zF (a : List Int) : ∀ {l : List (List Int)}, l.Pairwise s9 → (insX a l).Pairwise s9
 | [], _ => by simp [insX]
 | b :: l, h => by
  rw [insX]
  rw [List.pairwise_cons] at h
  split
  ·rename_i h1
   refine List.pairwise_cons.2 ⟨fun c hc => ?_, List.pairwise_cons.2 h⟩
   rcases List.mem_cons.1 hc with rfl | hc
   ·exact h1
   ·exact Pq h1 (h.1 c hc)
  ·rename_i h1
   refine List.pairwise_cons.2 ⟨fun c hc => ?_, zF a h.2⟩
   rcases List.mem_cons.1 ((xW a l).mem_iff.1 hc) with rfl | hc
   ·unfold s9; have := jB c b; omega
   ·exact h.1 c hc
theorem rU : ∀ l : List (List Int), (B4 l).Pairwise s9
 | [] => List.Pairwise.nil
 | a :: l => zF a (rU l)
theorem ME {a b : List (List Int)} (hp : a.Perm b) (h : a.Pairwise s9) : a = B4 b :=
 List.Perm.eq_of_pairwise (le := s9) (fun x y _ _ h1 h2 => iO (by unfold s9 at h1 h2; have := jB x y; omega)) h (rU b) (hp.trans (qH b).symm)
def eF : List (List Int) → List (List Int)
 | [] => []
 | a :: l => if l.head? = some a then eF l else a :: eF l
theorem oJ {x : List Int} : ∀ {l : List (List Int)}, x ∈ eF l ↔ x ∈ l
 | [] => by rw [eF]
 | a :: l => by
  rw [eF]
  split
  ·rename_i h
   rw [oJ, List.mem_cons]
   constructor
   ·exact .inr
   ·rintro (rfl | h1)
    ·exact List.mem_of_head? h
    ·exact h1
  ·rw [List.mem_cons, List.mem_cons, oJ]
theorem tO : ∀ {l : List (List Int)}, l.Pairwise s9 → (eF l).Pairwise s8
 | [], _ => List.Pairwise.nil
 | a :: l, h => by
  rw [List.pairwise_cons] at h
  rw [eF]
  split
  ·exact tO h.2
  ·rename_i hne
   refine List.pairwise_cons.2 ⟨fun c hc => ?_, tO h.2⟩
   have hc := oJ.1 hc
   have h1 := h.1 c hc
   unfold s8
   unfold s9 at h1
   by_cases e : cmpL a c = 0
   ·exfalso
    have e := iO e
    subst e
    cases l with
    | nil => cases hc
    | cons b l =>
     rw [List.head?_cons] at hne
     have h2 := h.1 b (by simp)
     rcases List.mem_cons.1 hc with rfl | hc
     ·exact hne rfl
     ·have h3 := (List.pairwise_cons.1 h.2).1 _ hc
      unfold s9 at h2 h3
      have := jB a b
      exact hne (by rw [iO (a := a) (b := b) (by omega)])
   ·omega
theorem CZ {a b : List (List Int)} (ha : a.Pairwise s8) (hb : b.Pairwise s8) (h : ∀ x, x ∈ a ↔ x ∈ b) : a = b := by
 have nd : ∀ {q : List (List Int)}, q.Pairwise s8 → q.Nodup := fun hq => hq.imp fun {x y} h1 e => by subst e; unfold s8 at h1; rw [s7] at h1; omega
 have hp : a.Perm b := (List.perm_ext_iff_of_nodup (nd ha) (nd hb)).2 h
 exact List.Perm.eq_of_pairwise (le := s8) (fun x y _ _ h1 h2 => by unfold s8 at h1 h2; have := jB x y; omega) ha hb hp
def p9 (l : List (List Int)) : List (List Int) := eF (B4 l)
theorem rV {x : List Int} {l : List (List Int)} : x ∈ p9 l ↔ x ∈ l := by unfold p9; rw [oJ]; exact (qH l).mem_iff
theorem lU (l : List (List Int)) : (p9 l).Pairwise s8 := tO (rU l)
theorem MF {a b : List (List Int)} (h : ∀ x, x ∈ a ↔ x ∈ b) : p9 a = p9 b := CZ (lU a) (lU b) fun x => by rw [rV, rV]; exact h x
end
section
structure aQ (names : List ByteArray) (t : aA) (S : Nat → List Int) : Prop where
 nm : ∀ k, k < names.length → bq (gs names k).data.toList = true
 nd : ∀ j k, j < k → k < names.length → gs names k ≠ gs names j
 n0 : 0 < t.ps.length
 n64 : t.ps.length ≤ 64
 len : t.ns.length = t.ps.length
 root : gi t.ps 0 = -1
 top : ∀ b : Nat, b < names.length → (b : Int) ∈ S 0
 bd : ∀ i, i < t.ps.length → (∀ x ∈ S i, 0 ≤ x ∧ x < (names.length : Int)) ∧ S i ≠ []
 par : ∀ i, 0 < i → i < t.ps.length → ∃ p, p < i ∧ gi t.ps i = (p : Int) ∧ (∀ x ∈ S i, x ∈ S p) ∧ ∀ j, j < t.ps.length → j ≠ i → (∀ x ∈ S i, x ∈ S j) → ∀ x ∈ S p, x ∈ S j
 inj : ∀ i j, i < t.ps.length → j < t.ps.length → (∀ x ∈ S i, x ∈ S j) → (∀ x ∈ S j, x ∈ S i) → i = j
 sing : ∀ b : Nat, b < names.length → ∃ i, i < t.ps.length ∧ S i = [(b : Int)]
 nms : ∀ i, i < t.ps.length → gs t.ns i = D9 names (S i)
 fF : ∀ i, i < t.ps.length → (S i).Nodup
section
variable {names : List ByteArray} {t : aA} {S : Nat → List Int}
theorem aQ.C0 (h : aQ names t S) {i c : Nat} (hc : c < t.ps.length) (h0 : 0 < c) (e : gi t.ps c = (i : Int)) : (∀ x ∈ S c, x ∈ S i) ∧ i < c := by
 obtain ⟨p, p1, p2, p3, _⟩ := h.par c h0 hc
 rw [e] at p2
 have : i = p := by omega
 subst this; exact ⟨p3, p1⟩
theorem aQ.meet (h : aQ names t S) {i : Nat} (hi : i < t.ps.length) : ∃ x, x ∈ S i := List.exists_mem_of_ne_nil _ (h.bd i hi).2
theorem aQ.kid (h : aQ names t S) {i : Nat} (hi : i < t.ps.length) : ∀ (d p : Nat), p ≤ d → p < t.ps.length → p ≠ i → (∀ x ∈ S p, x ∈ S i) → ∃ c, c < t.ps.length ∧ i < c ∧ gi t.ps c = (i : Int) ∧ ∀ x ∈ S p, x ∈ S c := by
 have z : ∀ p, p < t.ps.length → p ≠ i → (∀ x ∈ S p, x ∈ S i) → 0 < p := fun p hp hne hs => by
  rcases Nat.eq_zero_or_pos p with e | e
  ·subst e
   refine absurd (h.inj 0 i hp hi hs fun x hx => ?_) hne
   obtain ⟨x0, xn⟩ := (h.bd i hi).1 x hx
   have := h.top x.toNat (by omega)
   rwa [Int.toNat_of_nonneg x0] at this
  ·exact e
 intro d
 induction d with
 | zero => intro p hd hp hne hs; have := z p hp hne hs; omega
 | succ d ih =>
  intro p hd hp hne hs
  obtain ⟨q, q1, q2, q3, q4⟩ := h.par p (z p hp hne hs) hp
  by_cases c : q = i
  ·subst c; exact ⟨p, hp, q1, q2, fun x hx => hx⟩
  ·obtain ⟨k, k1, k2, k3, k4⟩ := ih q (by omega) (by omega) c (q4 i hi (fun e => hne e.symm) hs)
   exact ⟨k, k1, k2, k3, fun x hx => k4 x (q3 x hx)⟩
theorem aQ.Hi (h : aQ names t S) {i : Nat} (hi : i < t.ps.length) (h2 : (S i).length ≠ 1) {x : Int} (hx : x ∈ S i) : ∃ c, c < t.ps.length ∧ i < c ∧ gi t.ps c = (i : Int) ∧ x ∈ S c := by
 obtain ⟨x0, xn⟩ := (h.bd i hi).1 x hx
 obtain ⟨k, rfl⟩ : ∃ k : Nat, x = k := ⟨x.toNat, by omega⟩
 obtain ⟨p, hp, e⟩ := h.sing k (by omega)
 have hne : p ≠ i := fun q => by subst q; rw [e] at h2; exact h2 rfl
 obtain ⟨c, c1, c2, c3, c4⟩ := h.kid hi p p (Nat.le_refl _) hp hne (fun y hy => by rw [e, List.mem_singleton] at hy; subst hy; exact hx)
 exact ⟨c, c1, c2, c3, c4 _ (by rw [e]; simp)⟩
theorem aQ.uz (h : aQ names t S) {i : Nat} (hi : i < t.ps.length) : isIn t.ps i = true ↔ (S i).length ≠ 1 := by
 unfold isIn AU
 rw [List.any_eq_true]
 constructor
 ·rintro ⟨c, hc, e⟩ h1
  have hc := List.mem_range.1 hc
  rw [Bool.and_eq_true, decide_eq_true_eq, beq_iff_eq] at e
  obtain ⟨s1, s2⟩ := h.C0 hc e.1 e.2
  obtain ⟨b, hb⟩ := List.length_eq_one_iff.1 h1
  obtain ⟨z, hz⟩ := h.meet hc
  have hzb := s1 z hz
  rw [hb, List.mem_singleton] at hzb
  have := h.inj i c hi hc (fun x hx => by rw [hb, List.mem_singleton] at hx; rw [hx, ← hzb]; exact hz) s1
  omega
 ·intro h1
  obtain ⟨x, hx⟩ := h.meet hi
  obtain ⟨c, c1, c2, c3, _⟩ := h.Hi hi h1 hx
  exact ⟨c, List.mem_range.2 c1, by rw [c3]; simp; omega⟩
theorem aQ.one (h : aQ names t S) {i : Nat} (hi : i < t.ps.length) (h1 : (S i).length = 1) : ∃ b : Nat, b < names.length ∧ S i = [(b : Int)] ∧ gs t.ns i = gs names b := by
 obtain ⟨x, hx⟩ := List.length_eq_one_iff.1 h1
 obtain ⟨x0, xn⟩ := (h.bd i hi).1 x (by rw [hx]; simp)
 refine ⟨x.toNat, by omega, by rw [hx]; congr 1; omega, ?_⟩
 rw [h.nms i hi, D9, if_pos h1, hx]; rfl
theorem aQ.big (h : aQ names t S) {i : Nat} (hi : i < t.ps.length) (h1 : (S i).length ≠ 1) : (gs t.ns i).size = 0 := by
 rw [h.nms i hi, D9, if_neg h1]; rfl
theorem aQ.pok (h : aQ names t S) : fK t.ps = true := by
 unfold fK
 rw [List.all_eq_true]
 intro i hi
 have hi := List.mem_range.1 hi
 unfold mH
 by_cases c : i = 0
 ·subst c; rw [h.root]; rfl
 ·rw [if_neg c]
  obtain ⟨p, h1, h2, _⟩ := h.par i (by omega) hi
  rw [h2]; simp; omega
theorem aQ.tree (h : aQ names t S) : aB t = 0 := by
 have hp := h.n0
 have YE := h.n64
 unfold aB
 rw [if_neg (by omega), if_neg (by omega), if_neg (by rw [h.len]; simp), if_pos h.pok]
 refine cA fun i hi => ?_
 unfold iR
 by_cases h1 : (S i).length = 1
 ·rw [if_neg (fun q => (h.uz hi).1 q h1)]
  obtain ⟨b, hb, e, en⟩ := h.one hi h1
  have hn := h.nm b hb
  rw [en, if_pos hn, if_neg]
  intro q
  unfold cZ at q
  obtain ⟨j, hj, e2⟩ := List.any_eq_true.1 q
  have hj := List.mem_range.1 hj
  have e2 := of_decide_eq_true e2
  rw [en] at e2
  by_cases j1 : (S j).length = 1
  ·obtain ⟨b', hb', e', en'⟩ := h.one (show j < t.ps.length by omega) j1
   rw [en'] at e2
   have : b' = b := by
    rcases Nat.lt_trichotomy b' b with c | c | c
    ·exact absurd e2.symm (h.nd b' b c hb)
    ·exact c
    ·exact absurd e2 (h.nd b b' c hb')
   subst this
   have := h.inj j i (by omega) hi (by rw [e', e]; exact fun x hx => hx) (by rw [e', e]; exact fun x hx => hx)
   omega
  ·have := h.big (show j < t.ps.length by omega) j1
   rw [e2] at this
   exact dS hn this
 ·rw [if_pos ((h.uz hi).2 h1), if_pos (h.big hi h1)]
theorem aQ.BR (h : aQ names t S) {i : Nat} (hi : i < t.ps.length) (h1 : (S i).length = 1) : bu t.ps i = [] := by
 rw [List.eq_nil_iff_forall_not_mem]
 intro c hc
 obtain ⟨c1, c2, c3⟩ := bH.1 hc
 refine (h.uz hi).1 ?_ h1
 unfold isIn AU
 rw [List.any_eq_true]
 exact ⟨c, List.mem_range.2 c1, by rw [c3]; simp; omega⟩
theorem aQ.leaves (h : aQ names t S) : ∀ d i, t.ps.length - i ≤ d → i < t.ps.length → Lv names (aR (cF t) (bM t) i) (S i)
 | 0, i, hd, hi => by omega
 | d + 1, i, hd, hi => by
  have ht := h.tree
  intro y
  rw [cQ (cg ht).wf hi, fM, show (cF t).nm i = gs t.ns i from rfl]
  by_cases h1 : (S i).length = 1
  ·obtain ⟨b, hb, e, en⟩ := h.one hi h1
   rw [h.BR hi h1, List.map_nil, en, iM (dS (h.nm b hb)), e]
   constructor
   ·intro hy; exact ⟨b, by simp, by simpa using hy⟩
   ·rintro ⟨b', hb', rfl⟩
    have : b' = b := by have := List.mem_singleton.1 hb'; omega
    subst this; simp
  ·rw [fo (h.big hi h1), List.mem_flatMap]
   constructor
   ·rintro ⟨q, hq, hy⟩
    obtain ⟨c, hc, rfl⟩ := List.mem_map.1 hq
    obtain ⟨c1, c2, c3⟩ := bH.1 hc
    obtain ⟨b, hb, e⟩ := (aQ.leaves h d c (by omega) c1 y).1 hy
    exact ⟨b, (h.C0 c1 (by omega) c3).1 _ hb, e⟩
   ·rintro ⟨b, hb, rfl⟩
    obtain ⟨c, c1, c2, c3, c4⟩ := h.Hi hi h1 hb
    exact ⟨_, List.mem_map.2 ⟨c, bH.2 ⟨c1, c2, c3⟩, rfl⟩, (aQ.leaves h d c (by omega) c1 _).2 ⟨b, c4, rfl⟩⟩
theorem aQ.part (h : aQ names t S) {i : Nat} (hi : i < t.ps.length) : nN (aR (cF t) (bM t) i) := by
 have ht := h.tree
 unfold nN
 rw [qN (cg ht).wf hi, sP (cg ht).wf hi, fM, show (cF t).nm i = gs t.ns i from rfl]
 by_cases h1 : (S i).length = 1
 ·obtain ⟨b, hb, e, en⟩ := h.one hi h1
  rw [h.BR hi h1, en]
  exact ⟨fun q => absurd rfl q, fun _ => h.nm b hb, by simp⟩
 ·have mV : ∀ x ∈ S i, ∃ c ∈ bu t.ps i, x ∈ S c := fun x hx => by
   obtain ⟨c, c1, c2, c3, c4⟩ := h.Hi hi h1 hx
   exact ⟨c, bH.2 ⟨c1, c2, c3⟩, c4⟩
  refine ⟨fun _ => h.big hi h1, fun q => ?_, fun q => ?_⟩
  ·have q : bu t.ps i = [] := by simpa using q
   obtain ⟨x, hx⟩ := h.meet hi
   obtain ⟨c, hc, _⟩ := mV x hx
   rw [q] at hc; cases hc
  ·rw [List.length_map] at q
   obtain ⟨c, hc⟩ := List.length_eq_one_iff.1 q
   obtain ⟨c1, c2, c3⟩ := bH.1 (show c ∈ bu t.ps i by rw [hc]; simp)
   have := h.inj i c hi c1 (fun x hx => by
    obtain ⟨c', hc', hx'⟩ := mV x hx
    rw [hc, List.mem_singleton] at hc'
    subst hc'; exact hx') (h.C0 c1 (by omega) c3).1
   omega
theorem aQ.oku (h : aQ names t S) : jf (fC t) := by
 have ht := h.tree
 refine ⟨(kE ht).nd, fun s hs => ?_⟩
 rw [iW ht] at hs
 obtain ⟨j, hj, rfl⟩ := List.mem_map.1 hs
 exact h.part (eu ht hj)
theorem aQ.node (h : aQ names t S) : ∀ (d i : Nat), i ≤ d → i < t.ps.length → aR (cF t) (bM t) i ∈ subR (fC t)
 | d, i, hd, hi => by
  have ht := h.tree
  by_cases h0 : i = 0
  ·subst h0; exact bI _
  ·obtain ⟨p, p1, p2, _⟩ := h.par i (by omega) hi
   cases d with
   | zero => omega
   | succ d =>
    have ih := aQ.node h d p (by omega) (by omega)
    refine fZ _ ih ?_
    rw [cQ (cg ht).wf (show p < t.ps.length by omega), fM]
    exact jk (List.mem_map.2 ⟨i, bH.2 ⟨hi, p1, p2⟩, rfl⟩)
theorem aQ.parts (h : aQ names t S) : (∀ s ∈ subR (fC t), ∃ i, i < t.ps.length ∧ Lv names s (S i)) ∧ ∀ i, i < t.ps.length → ∃ s ∈ subR (fC t), Lv names s (S i) := by
 have ht := h.tree
 constructor
 ·intro s hs
  rw [iW ht] at hs
  obtain ⟨j, hj, rfl⟩ := List.mem_map.1 hs
  have := eu ht hj
  exact ⟨j, this, h.leaves _ j (Nat.le_refl _) this⟩
 ·exact fun i hi => ⟨_, h.node i i (Nat.le_refl _) hi, h.leaves _ i (Nat.le_refl _) hi⟩
end
end
section
section
variable {t : aA}
theorem MG (l : List Int) : (nP l).Pairwise (· ≤ ·) := by
 have h := List.pairwise_mergeSort (le := fun x y : Int => decide (x ≤ y)) (fun a b c h1 h2 => by simp at h1 h2 ⊢; omega) (fun a b => by
  simp only [Bool.or_eq_true, decide_eq_true_eq]; omega) l
 exact h.imp fun h => by simpa using h
theorem En {α β : Type} {f : α → β} : ∀ {l : List α}, l.Nodup → (∀ x ∈ l, ∀ y ∈ l, f x = f y → x = y) → (l.map f).Nodup
 | [], _, _ => List.nodup_nil
 | a :: l, hn, h => by
  rw [List.map_cons, List.nodup_cons]
  have hn2 := List.nodup_cons.1 hn
  refine ⟨fun hm => ?_, En hn2.2 fun x hx y hy e => h x (List.mem_cons_of_mem _ hx) y (List.mem_cons_of_mem _ hy) e⟩
  obtain ⟨y, hy, e⟩ := List.mem_map.1 hm
  exact hn2.1 (h y (List.mem_cons_of_mem _ hy) a (List.mem_cons_self ..) e ▸ hy)
theorem Pr (he : aB t = 0) {x : Int} (hx : x ∈ aV t.ns) : ∃ j : Nat, x = j ∧ cK t j := by
 obtain ⟨_, _, hl, _, _⟩ := aH he
 obtain ⟨j, rfl, h1, h2⟩ := jQ.1 hx
 exact ⟨j, rfl, he, by omega, h2⟩
end
end
end Go.Proofs.YtpnmblnahjjmhaaGreat
