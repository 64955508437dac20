/- Plain: the table of a tree. -/
import Derived.Test.YtflikmllpimaiaaS4
namespace Go.Proofs.Ytflikmllpimaiaa
def sumN (f : Nat → Int) : Nat → Int
  | 0 => 0
  | n + 1 => sumN f n + f n
theorem sumN_succ (f : Nat → Int) (n : Nat) : sumN f (n + 1) = sumN f n + f n := rfl
theorem sumN_congr {f g : Nat → Int} : ∀ {n : Nat}, (∀ c, c < n → f c = g c) → sumN f n = sumN g n
  | 0, _ => rfl
  | n + 1, h => by rw [sumN_succ, sumN_succ, sumN_congr fun c hc => h c (by omega), h n (by omega)]
theorem sumN_add (f g : Nat → Int) : ∀ n : Nat, sumN (fun c => f c + g c) n = sumN f n + sumN g n
  | 0 => rfl
  | n + 1 => by rw [sumN_succ, sumN_succ, sumN_succ, sumN_add f g n]; omega
theorem sumN_mono {f g : Nat → Int} : ∀ {n : Nat}, (∀ c, c < n → f c ≤ g c) → sumN f n ≤ sumN g n
  | 0, _ => Int.le_refl _
  | n + 1, h => by
    rw [sumN_succ, sumN_succ]
    have := sumN_mono (f := f) (g := g) (n := n) fun c hc => h c (by omega)
    have := h n (by omega); omega
theorem sumN_zero : ∀ n : Nat, sumN (fun _ => 0) n = 0
  | 0 => rfl
  | n + 1 => by rw [sumN_succ, sumN_zero n]; rfl
theorem sumN_nonneg {f : Nat → Int} {n : Nat} (h : ∀ c, c < n → 0 ≤ f c) : 0 ≤ sumN f n := by
  have := sumN_mono (f := fun _ => 0) (g := f) (n := n) h
  rw [sumN_zero] at this; exact this
theorem sumN_one (k : Nat) (x : Int) : ∀ n : Nat, sumN (fun c => if c = k then x else 0) n = if k < n then x else 0
  | 0 => rfl
  | n + 1 => by
    rw [sumN_succ, sumN_one k x n]
    by_cases h : n = k
    · subst h; simp
    · by_cases h2 : k < n
      · simp [h, h2]; omega
      · simp [h, h2]; omega
theorem kidsK_sum (ps : List Int) (i : Nat) (g : Nat → Int) : ∀ n : Nat, ((kidsK ps i n).map g).sum = sumN (fun c => if i < c ∧ gi ps c = i then g c else 0) n
  | 0 => rfl
  | n + 1 => by
    rw [kidsK_succ, List.map_append, List.sum_append, kidsK_sum ps i g n, sumN_succ]
    split <;> simp
/-- The number of node i, for the state s, if those of the nodes behind it are known. -/
def rowF (n m : Nat) (par own : Nat → Int) (cost : Nat → Nat → Int) (look : Nat → Nat → Int) (i s : Nat) : Int :=
  (if 0 ≤ own i ∧ own i ≠ s then -1 else 0) + sumN (fun c => if i < c ∧ par c = i then (bestK (cost s) (look c) m).1 else 0) n
def tabF (n m : Nat) (par own : Nat → Int) (cost : Nat → Nat → Int) : Nat → Nat → Nat → Int
  | 0 => fun _ _ => 0
  | d + 1 => rowF n m par own cost (tabF n m par own cost d)
def tab (n m : Nat) (par own : Nat → Int) (cost : Nat → Nat → Int) (i s : Nat) : Int := tabF n m par own cost n i s
theorem bestK_congr {c c' r r' : Nat → Int} : ∀ {k : Nat}, (∀ j, j < k → c j = c' j) → (∀ j, j < k → r j = r' j) → bestK c r k = bestK c' r' k
  | 0, _, _ => rfl
  | k + 1, h1, h2 => by
    rw [bestK_succ, bestK_succ, bestK_congr (fun j hj => h1 j (by omega)) (fun j hj => h2 j (by omega)), h1 k (by omega), h2 k (by omega)]
section
variable {n m : Nat} {par own : Nat → Int} {cost : Nat → Nat → Int}
theorem tabF_fuel : ∀ {d e i : Nat}, n ≤ i + d → n ≤ i + e → i < n → ∀ s, tabF n m par own cost d i s = tabF n m par own cost e i s
  | 0, _, _, h, _, hi, _ => by omega
  | _, 0, _, _, h, hi, _ => by omega
  | d + 1, e + 1, i, h1, h2, hi, s => by
    show rowF _ _ _ _ _ _ _ _ = rowF _ _ _ _ _ _ _ _
    unfold rowF
    congr 1
    refine sumN_congr fun c hc => ?_
    split
    · rename_i hk
      rw [bestK_congr (fun _ _ => rfl) fun j _ => tabF_fuel (d := d) (e := e) (by omega) (by omega) hc j]
    · rfl
/-- The table's own equation. -/
theorem tab_eq {i : Nat} (hi : i < n) (s : Nat) : tab n m par own cost i s = rowF n m par own cost (tab n m par own cost) i s := by
  unfold tab
  obtain ⟨d, rfl⟩ : ∃ d, n = d + 1 := ⟨n - 1, by omega⟩
  show rowF _ _ _ _ _ _ _ _ = _
  unfold rowF
  congr 1
  refine sumN_congr fun c hc => ?_
  split
  · rename_i hk
    rw [bestK_congr (fun _ _ => rfl) fun j _ => tabF_fuel (d := d) (e := d + 1) (by omega) (by omega) hc j]
  · rfl
/-- What is asked of the arguments: parents stand before their children, costs are from 0 to 1000, and a node with a known state has no children. -/
structure Fine (n m : Nat) (par own : Nat → Int) (cost : Nat → Nat → Int) : Prop where
  m1 : 0 < m
  par0 : ∀ c, 0 < c → c < n → 0 ≤ par c
  parlt : ∀ c, c < n → par c < c
  own1 : ∀ i, i < n → -1 ≤ own i ∧ own i < m
  cost1 : ∀ a b, a < m → b < m → 0 ≤ cost a b ∧ cost a b ≤ 1000
  leaf : ∀ i c, c < n → i < c → par c = i → own i = -1
/-- The least number is none, or it is not below 0 and no number's sum is below it. -/
theorem bestK_spec {c row : Nat → Int} {A : Int} (hA : 0 ≤ A) : ∀ {k : Nat}, (∀ j, j < k → 0 ≤ c j ∧ c j ≤ 1000) → (∀ j, j < k → row j ≤ A) →
    ((bestK c row k).1 = -1 ∧ (∀ j, j < k → row j < 0)) ∨
    (∃ o : Nat, (bestK c row k).2 = o ∧ o < k ∧ 0 ≤ row o ∧ (bestK c row k).1 = c o + row o ∧ (∀ j, j < k → 0 ≤ row j → (bestK c row k).1 ≤ c j + row j) ∧ (∀ j, j < o → 0 ≤ row j → (bestK c row k).1 < c j + row j))
  | 0, _, _ => .inl ⟨rfl, fun j hj => absurd hj (Nat.not_lt_zero _)⟩
  | k + 1, hc, hr => by
    have ih := bestK_spec (c := c) (row := row) hA (k := k) (fun j hj => hc j (by omega)) fun j hj => hr j (by omega)
    have hck := hc k (by omega)
    rw [bestK_succ]
    by_cases h0 : row k < 0
    · rw [if_pos h0]
      rcases ih with ⟨h1, h2⟩ | ⟨o, h1, h2, h3, h4, h5, h6⟩
      · exact .inl ⟨h1, fun j hj => if e : j = k then e ▸ h0 else h2 j (by omega)⟩
      · refine .inr ⟨o, h1, by omega, h3, h4, fun j hj hj0 => ?_, h6⟩
        by_cases e : j = k
        · subst e; omega
        · exact h5 j (by omega) hj0
    · rw [if_neg h0]
      rcases ih with ⟨h1, h2⟩ | ⟨o, h1, h2, h3, h4, h5, h6⟩
      · rw [if_pos (.inl (by omega))]
        refine .inr ⟨k, rfl, by omega, by omega, rfl, fun j hj hj0 => ?_, fun j hj hj0 => ?_⟩
        · by_cases e : j = k
          · subst e; exact Int.le_refl _
          · have := h2 j (by omega); omega
        · have := h2 j (by omega); omega
      · have ho := hc o (by omega)
        by_cases hlt : c k + row k < (bestK c row k).1
        · rw [if_pos (.inr hlt)]
          refine .inr ⟨k, rfl, by omega, by omega, rfl, fun j hj hj0 => ?_, fun j hj hj0 => ?_⟩
          · by_cases e : j = k
            · subst e; exact Int.le_refl _
            · have := h5 j (by omega) hj0; simp only; omega
          · have := h5 j (by omega) hj0; simp only; omega
        · rw [if_neg (by intro h; omega)]
          refine .inr ⟨o, h1, by omega, h3, h4, fun j hj hj0 => ?_, h6⟩
          by_cases e : j = k
          · subst e; omega
          · exact h5 j (by omega) hj0
end
end Go.Proofs.Ytflikmllpimaiaa
