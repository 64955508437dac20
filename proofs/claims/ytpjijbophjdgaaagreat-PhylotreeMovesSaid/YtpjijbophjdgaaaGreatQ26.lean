/- The contract of slices.Sort at ints: the laying. slices.Sort at ints that the call has built. The law's leaves. What the sets of Consistent hold; at Tree's tree. The sets that layer 35's reference makes a tree of, and that tree: plain. The tree that layer 35's reference makes of the sets is, sorted, the program's tree: plain. The sets of layer 35's reference are nested, and their tree is the program's: plain. Forests whose nodes change below one node: plain. -/
import Derived.Shelf.SlGeneric
import Derived.Shelf.SlLaysM
import Derived.Ground.SlgmProg
import Derived.Test.YtpjijbophjdgaaaGreatProg
import Derived.Test.YtpjijbophjdgaaaGreatQ4
import Derived.Test.YtpjijbophjdgaaaGreatQ1
import Derived.Shelf.SortM.Plain
import Derived.Shelf.SortM.SortNone
import Derived.Sort.OwnSortedInts
import Derived.Test.YtpjijbophjdgaaaGreatQ24
import Derived.Test.YtpjijbophjdgaaaGreatQ25
import Derived.Test.YtpjijbophjdgaaaGreatQ16
namespace Go.Proofs
open Go.Shelf
end Go.Proofs
namespace Go.Proofs.YtpjijbophjdgaaaGreat
open Go.RowKit Go.Shelf Go.Deep Go.Sort
end Go.Proofs.YtpjijbophjdgaaaGreat
namespace Go.Proofs.YtpjijbophjdgaaaGreat
open Go.RowKit Go.Deep
end Go.Proofs.YtpjijbophjdgaaaGreat
namespace Go.Proofs.YtpjijbophjdgaaaGreat
section
variable {names : List ByteArray} {l : List Grp}
end
end Go.Proofs.YtpjijbophjdgaaaGreat
namespace Go.Proofs.YtpjijbophjdgaaaGreat
section
variable {n : Nat} {S : List (List Int)}
end
end Go.Proofs.YtpjijbophjdgaaaGreat
namespace Go.Proofs.YtpjijbophjdgaaaGreat
section
variable {names : List ByteArray} {l : List Grp} {S : List (List Int)}
end
end Go.Proofs.YtpjijbophjdgaaaGreat
namespace Go.Proofs.YtpjijbophjdgaaaGreat
section
variable {names : List ByteArray} {l : List Grp}
end
end Go.Proofs.YtpjijbophjdgaaaGreat
namespace Go.Proofs.YtpjijbophjdgaaaGreat
section
variable {F G : Frs} {n : Nat} {rk : Nat → Nat}
theorem kids_nil0 (h : Wf F n rk) {i : Nat} (hi : i < n) (h0 : rk i ≤ 0) : F.kids i = [] := by
  cases hk : F.kids i with
  | nil => rfl
  | cons k l => have := (h.kid i hi k (by rw [hk]; simp)).2; omega
theorem sub_trans (h : Wf F n rk) : ∀ {d i j z : Nat}, i < n → rk i ≤ d → subF F rk i j = true → subF F rk j z = true → subF F rk i z = true := by
  intro d
  induction d with
  | zero =>
    intro i j z hi hd h1 h2
    rw [subF_eq h hi, kids_nil0 h hi hd] at h1
    have : j = i := by simpa using h1
    subst this; exact h2
  | succ d ih =>
    intro i j z hi hd h1 h2
    rcases subF_cases h hi h1 with e | ⟨k, hk, h3⟩
    · subst e; exact h2
    · have hkk := h.kid i hi k hk
      exact subF_kid h hi hk (ih hkk.1 (by omega) h3 h2)
theorem sub_cong (hF : Wf F n rk) (hG : Wf G n rk) : ∀ {d c : Nat}, c < n → rk c ≤ d → (∀ z, subF F rk c z = true → G.kids z = F.kids z) → ∀ z, subF G rk c z = subF F rk c z := by
  intro d
  induction d with
  | zero =>
    intro c hc hd hz z
    rw [subF_eq hF hc, subF_eq hG hc, kids_nil0 hF hc hd, kids_nil0 hG hc hd]; rfl
  | succ d ih =>
    intro c hc hd hz z
    rw [subF_eq hF hc, subF_eq hG hc, hz c (subF_self hF hc)]
    congr 1
    rw [Bool.eq_iff_iff, List.any_eq_true, List.any_eq_true]
    have key : ∀ k ∈ F.kids c, subF G rk k z = subF F rk k z := fun k hk => by
      have hkk := hF.kid c hc k hk
      exact ih hkk.1 (by omega) (fun y hy => hz y (subF_kid hF hc hk hy)) z
    constructor
    · rintro ⟨k, hk, e⟩; exact ⟨k, hk, by rw [← key k hk]; exact e⟩
    · rintro ⟨k, hk, e⟩; exact ⟨k, hk, by rw [key k hk]; exact e⟩
def crD (F : Frs) : Nat → Nat → Nat
  | 0, i => i
  | d + 1, i => match F.kids i with | [k] => crD F d k | _ => i
def cr (F : Frs) (rk : Nat → Nat) (i : Nat) : Nat := crD F (rk i) i
theorem crD_fuel (h : Wf F n rk) : ∀ {d e i : Nat}, i < n → rk i ≤ d → rk i ≤ e → crD F d i = crD F e i := by
  intro d
  induction d with
  | zero =>
    intro e i hi hd he
    cases e with
    | zero => rfl
    | succ e => simp [crD, kids_nil0 h hi hd]
  | succ d ih =>
    intro e i hi hd he
    cases e with
    | zero => simp [crD, kids_nil0 h hi he]
    | succ e =>
      simp only [crD]
      split
      · rename_i k hk
        have := h.kid i hi k (by rw [hk]; simp)
        exact ih this.1 (by omega) (by omega)
      · rfl
theorem cr_eq (h : Wf F n rk) {i : Nat} (hi : i < n) : cr F rk i = match F.kids i with | [k] => cr F rk k | _ => i := by
  have h1 : cr F rk i = crD F (rk i + 1) i := crD_fuel h hi (Nat.le_refl _) (Nat.le_succ _)
  rw [h1]
  simp only [crD]
  split
  · rename_i k hk
    have := h.kid i hi k (by rw [hk]; simp)
    exact crD_fuel h this.1 (by omega) (Nat.le_refl _)
  · rfl
theorem cr_one (h : Wf F n rk) {i k : Nat} (hi : i < n) (hk : F.kids i = [k]) : cr F rk i = cr F rk k := by rw [cr_eq h hi, hk]
theorem cr_self (h : Wf F n rk) {i : Nat} (hi : i < n) (hk : (F.kids i).length ≠ 1) : cr F rk i = i := by
  rw [cr_eq h hi]
  split
  · rename_i k e; rw [e] at hk; simp at hk
  · rfl
theorem cr_ok (h : Wf F n rk) : ∀ {d i : Nat}, i < n → rk i ≤ d → cr F rk i < n ∧ rk (cr F rk i) ≤ rk i ∧ subF F rk i (cr F rk i) = true ∧ (F.kids (cr F rk i)).length ≠ 1 := by
  intro d
  induction d with
  | zero =>
    intro i hi hd
    rw [cr_self h hi (by rw [kids_nil0 h hi hd]; simp)]
    exact ⟨hi, Nat.le_refl _, subF_self h hi, by rw [kids_nil0 h hi hd]; simp⟩
  | succ d ih =>
    intro i hi hd
    by_cases h1 : (F.kids i).length = 1
    · obtain ⟨k, hk⟩ := List.length_eq_one_iff.1 h1
      have hkk := h.kid i hi k (by rw [hk]; simp)
      obtain ⟨a, b, c, e⟩ := ih hkk.1 (by omega)
      rw [cr_one h hi hk]
      exact ⟨a, by omega, subF_kid h hi (by rw [hk]; simp) c, e⟩
    · rw [cr_self h hi h1]
      exact ⟨hi, Nat.le_refl _, subF_self h hi, h1⟩
theorem cr_cong (hF : Wf F n rk) (hG : Wf G n rk) : ∀ {d c : Nat}, c < n → rk c ≤ d → (∀ z, subF F rk c z = true → G.kids z = F.kids z) → cr G rk c = cr F rk c := by
  intro d
  induction d with
  | zero =>
    intro c hc hd hz
    rw [cr_self hF hc (by rw [kids_nil0 hF hc hd]; simp), cr_self hG hc (by rw [kids_nil0 hG hc hd]; simp)]
  | succ d ih =>
    intro c hc hd hz
    have h0 := hz c (subF_self hF hc)
    by_cases h1 : (F.kids c).length = 1
    · obtain ⟨k, hk⟩ := List.length_eq_one_iff.1 h1
      have hkk := hF.kid c hc k (by rw [hk]; simp)
      rw [cr_one hF hc hk, cr_one hG hc (by rw [h0, hk])]
      exact ih hkk.1 (by omega) fun y hy => hz y (subF_kid hF hc (by rw [hk]; simp) hy)
    · rw [cr_self hF hc h1, cr_self hG hc (by rw [h0]; exact h1)]
def alD (F : Frs) (P : Nat → Bool) : Nat → Nat → Bool
  | 0, i => P i
  | d + 1, i => if F.kids i = [] then P i else (F.kids i).any (alD F P d)
def al (F : Frs) (P : Nat → Bool) (rk : Nat → Nat) (i : Nat) : Bool := alD F P (rk i) i
theorem any_congr {α : Type} {f g : α → Bool} : ∀ {l : List α}, (∀ k ∈ l, f k = g k) → l.any f = l.any g
  | [], _ => rfl
  | a :: l, h => by rw [List.any_cons, List.any_cons, h a (by simp), any_congr fun k hk => h k (by simp [hk])]
theorem alD_fuel {P : Nat → Bool} (h : Wf F n rk) : ∀ {d e i : Nat}, i < n → rk i ≤ d → rk i ≤ e → alD F P d i = alD F P e i := by
  intro d
  induction d with
  | zero =>
    intro e i hi hd he
    cases e with
    | zero => rfl
    | succ e => simp [alD, kids_nil0 h hi hd]
  | succ d ih =>
    intro e i hi hd he
    cases e with
    | zero => simp [alD, kids_nil0 h hi he]
    | succ e =>
      simp only [alD]
      split
      · rfl
      · exact any_congr fun k hk => by
          have := h.kid i hi k hk
          exact ih this.1 (by omega) (by omega)
theorem al_eq {P : Nat → Bool} (h : Wf F n rk) {i : Nat} (hi : i < n) : al F P rk i = if F.kids i = [] then P i else (F.kids i).any (al F P rk) := by
  have h1 : al F P rk i = alD F P (rk i + 1) i := alD_fuel h hi (Nat.le_refl _) (Nat.le_succ _)
  rw [h1]
  simp only [alD]
  split
  · rfl
  · exact any_congr fun k hk => by
      have := h.kid i hi k hk
      exact alD_fuel h this.1 (by omega) (Nat.le_refl _)
theorem al_cong {P : Nat → Bool} (hF : Wf F n rk) (hG : Wf G n rk) : ∀ {d c : Nat}, c < n → rk c ≤ d → (∀ z, subF F rk c z = true → G.kids z = F.kids z) → al G P rk c = al F P rk c := by
  intro d
  induction d with
  | zero =>
    intro c hc hd hz
    rw [al_eq hF hc, al_eq hG hc, kids_nil0 hF hc hd, kids_nil0 hG hc hd]; rfl
  | succ d ih =>
    intro c hc hd hz
    rw [al_eq hF hc, al_eq hG hc, hz c (subF_self hF hc)]
    split
    · rfl
    · exact any_congr fun k hk => by
        have hkk := hF.kid c hc k hk
        exact ih hkk.1 (by omega) fun y hy => hz y (subF_kid hF hc hk hy)
def Dis (F : Frs) (n : Nat) (rk : Nat → Nat) (i : Nat) : Prop :=
  ∀ z, z < n → subF F rk i z = true → (F.kids z).Nodup ∧ ∀ x ∈ F.kids z, ∀ y ∈ F.kids z, ∀ j, subF F rk x j = true → subF F rk y j = true → x = y
theorem Dis.kid (h : Wf F n rk) {i k : Nat} (hi : i < n) (hk : k ∈ F.kids i) (hD : Dis F n rk i) : Dis F n rk k := fun z hz hs => hD z hz (subF_kid h hi hk hs)
theorem Dis.cong (hF : Wf F n rk) (hG : Wf G n rk) {c : Nat} (hc : c < n) (hz : ∀ z, subF F rk c z = true → G.kids z = F.kids z) (hD : Dis F n rk c) : Dis G n rk c := fun z hzn hs => by
  have hs : subF F rk c z = true := by rw [← sub_cong hF hG hc (Nat.le_refl _) hz]; exact hs
  obtain ⟨h1, h2⟩ := hD z hzn hs
  rw [hz z hs]
  refine ⟨h1, fun x hx y hy j a b => h2 x hx y hy j ?_ ?_⟩
  · rw [← sub_cong hF hG (hF.kid z hzn x hx).1 (Nat.le_refl _) fun u hu => hz u (sub_trans hF hc (Nat.le_refl _) hs (subF_kid hF hzn hx hu))]; exact a
  · rw [← sub_cong hF hG (hF.kid z hzn y hy).1 (Nat.le_refl _) fun u hu => hz u (sub_trans hF hc (Nat.le_refl _) hs (subF_kid hF hzn hy hu))]; exact b
theorem Arb.dis (h : Arb F n rk) {R : Nat} (hR : ∀ i, i < n → rk i ≤ R) (i : Nat) : Dis F n rk i := fun z hz _ =>
  ⟨h.nodup z hz, fun _ hx _ hy _ a b => sub_kids h hR hz hx hy a b⟩
def Frs.sub (F : Frs) (rk : Nat → Nat) (q : Nat → List Nat) (i : Nat) : Frs := ⟨F.nm, F.old, fun z => if subF F rk i z then q z else F.kids z⟩
def Frs.upto (F : Frs) (rk : Nat → Nat) (q : Nat → List Nat) (L : List Nat) (k : Nat) : Frs := ⟨F.nm, F.old, fun z => if (L.take k).any (fun c => subF F rk c z) then q z else F.kids z⟩
theorem upto_zero (q : Nat → List Nat) (L : List Nat) (z : Nat) : (F.upto rk q L 0).kids z = F.kids z := by simp [Frs.upto]
theorem upto_fresh (h : Wf F n rk) {q : Nat → List Nat} {y k c : Nat} (hy : y < n) (hD : Dis F n rk y) (hc : (F.kids y)[k]? = some c) : ∀ z, subF F rk c z = true → (F.upto rk q (F.kids y) k).kids z = F.kids z := fun z hs => by
  show (if _ then _ else _) = _
  rw [if_neg]
  intro e
  obtain ⟨b, hb, e⟩ := List.any_eq_true.1 e
  obtain ⟨h1, h2⟩ := hD y hy (subF_self h hy)
  obtain ⟨j, hj, ej⟩ := List.getElem_of_mem hb
  rw [List.getElem_take] at ej
  have hjk : j < k := by rw [List.length_take] at hj; omega
  obtain ⟨hkl, ek⟩ := List.getElem?_eq_some_iff.1 hc
  have := h2 b (List.mem_of_mem_take hb) c (by rw [← ek]; exact List.getElem_mem hkl) z e hs
  rw [← ej, ← ek] at this
  have := (List.getElem_inj h1).1 this
  omega
theorem upto_succ {q : Nat → List Nat} {L : List Nat} {k c : Nat} (hc : L[k]? = some c) (z : Nat) : (F.upto rk q L (k + 1)).kids z = if subF F rk c z then q z else (F.upto rk q L k).kids z := by
  show (if _ then _ else _) = if _ then _ else (if _ then _ else _)
  rw [List.take_add_one, hc, List.any_append]
  simp only [Option.toList, List.any_cons, List.any_nil, Bool.or_false]
  cases (L.take k).any (fun c => subF F rk c z) <;> cases subF F rk c z <;> rfl
theorem upto_own (h : Wf F n rk) {q : Nat → List Nat} {y : Nat} (hy : y < n) (k : Nat) : (F.upto rk q (F.kids y) k).kids y = F.kids y := by
  show (if _ then _ else _) = _
  rw [if_neg]
  intro e
  obtain ⟨b, hb, e⟩ := List.any_eq_true.1 e
  rw [subF_not h hy (List.mem_of_mem_take hb)] at e; cases e
theorem upto_all (h : Wf F n rk) {q : Nat → List Nat} {y z : Nat} (hy : y < n) (hz : z ≠ y) : (F.upto rk q (F.kids y) (F.kids y).length).kids z = (F.sub rk q y).kids z := by
  show (if _ then _ else _) = if _ then _ else _
  rw [List.take_length, subF_eq h hy, show (z == y) = false from beq_eq_false_iff_ne.2 hz, Bool.false_or]
end
end Go.Proofs.YtpjijbophjdgaaaGreat
