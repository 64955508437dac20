/- Plain: the numbers of the table are not too great. -/
import Derived.Test.YtflikmllpimaiaaS5
namespace Go.Proofs.Ytflikmllpimaiaa
section
variable {n m : Nat} {par own : Nat → Int} {cost : Nat → Nat → Int}
def uF (n : Nat) (par : Nat → Int) : Nat → Nat → Int
  | 0, _ => 0
  | d + 1, i => sumN (fun c => if i < c ∧ par c = i then uF n par d c + 1000 else 0) n
def ub (n : Nat) (par : Nat → Int) (i : Nat) : Int := uF n par n i
theorem uF_fuel : ∀ {d e i : Nat}, n ≤ i + d → n ≤ i + e → i < n → uF n par d i = uF n par e i
  | 0, _, _, h, _, hi => by omega
  | _, 0, _, _, h, hi => by omega
  | d + 1, e + 1, i, h1, h2, hi => by
    show sumN _ _ = sumN _ _
    refine sumN_congr fun c hc => ?_
    split
    · rename_i hk
      rw [uF_fuel (d := d) (e := e) (by omega) (by omega) hc]
    · rfl
theorem ub_eq {i : Nat} (hi : i < n) : ub n par i = sumN (fun c => if i < c ∧ par c = i then ub n par c + 1000 else 0) n := by
  unfold ub
  obtain ⟨d, rfl⟩ : ∃ d, n = d + 1 := ⟨n - 1, by omega⟩
  show sumN _ _ = _
  refine sumN_congr fun c hc => ?_
  split
  · rename_i hk
    rw [uF_fuel (d := d) (e := d + 1) (by omega) (by omega) hc]
  · rfl
theorem uF_nonneg (d : Nat) : ∀ i : Nat, 0 ≤ uF n par d i := by
  induction d with
  | zero => intro i; exact Int.le_refl _
  | succ d ih =>
    intro i
    exact sumN_nonneg fun c _ => by
      have := ih c
      split <;> omega
theorem ub_nonneg (i : Nat) : 0 ≤ ub n par i := uF_nonneg _ _
def pot (n : Nat) (par : Nat → Int) (k : Nat) : Int := sumN (fun c => if k ≤ c ∧ par c < k then ub n par c + 1000 else 0) n
theorem pot_step (h : ∀ c, c < n → par c < c) {k : Nat} (hk : k < n) : pot n par k = pot n par (k + 1) + 1000 := by
  have h1 : pot n par k = sumN (fun c => if k + 1 ≤ c ∧ par c < k then ub n par c + 1000 else 0) n + sumN (fun c => if c = k then ub n par k + 1000 else 0) n := by
    rw [← sumN_add]; unfold pot
    refine sumN_congr fun c hc => ?_
    by_cases e : c = k
    · subst e
      have := h c hc
      rw [if_pos ⟨Nat.le_refl _, this⟩, if_neg (by omega), if_pos rfl]; omega
    · by_cases h2 : k ≤ c ∧ par c < k
      · rw [if_pos h2, if_pos ⟨by omega, h2.2⟩, if_neg e]; omega
      · rw [if_neg h2, if_neg (fun h3 => h2 ⟨by omega, h3.2⟩), if_neg e]; rfl
  have h2 : pot n par (k + 1) = sumN (fun c => if k + 1 ≤ c ∧ par c < k then ub n par c + 1000 else 0) n + sumN (fun c => if k < c ∧ par c = k then ub n par c + 1000 else 0) n := by
    rw [← sumN_add]; unfold pot
    refine sumN_congr fun c _ => ?_
    by_cases h3 : k + 1 ≤ c
    · by_cases h4 : par c = k
      · rw [if_pos ⟨h3, by omega⟩, if_neg (by omega), if_pos ⟨h3, h4⟩]; omega
      · by_cases h5 : par c < k
        · rw [if_pos ⟨h3, by omega⟩, if_pos ⟨h3, h5⟩, if_neg (fun h => h4 h.2)]; omega
        · rw [if_neg (by omega), if_neg (fun h => h5 h.2), if_neg (fun h => h4 h.2)]; rfl
    · rw [if_neg (fun h => h3 h.1), if_neg (fun h => h3 h.1), if_neg (fun h => h3 (by omega))]; rfl
  rw [sumN_one, if_pos hk] at h1
  rw [← ub_eq hk] at h2
  omega
theorem pot_le (h : ∀ c, c < n → par c < c) : ∀ {d k : Nat}, k + d = n → pot n par k = 1000 * (d : Int)
  | 0, k, e => by
    have : pot n par k = sumN (fun _ => 0) n := sumN_congr fun c hc => by rw [if_neg (by omega)]
    rw [this, sumN_zero]; rfl
  | d + 1, k, e => by
    rw [pot_step h (by omega), pot_le h (d := d) (k := k + 1) (by omega)]; omega
theorem sumN_ge {f : Nat → Int} : ∀ {n k : Nat}, (∀ c, c < n → 0 ≤ f c) → k < n → f k ≤ sumN f n
  | 0, _, _, h => absurd h (Nat.not_lt_zero _)
  | n + 1, k, h, hk => by
    rw [sumN_succ]
    by_cases e : k = n
    · subst e; have := sumN_nonneg (f := f) (n := k) fun c hc => h c (by omega); omega
    · have := sumN_ge (f := f) (n := n) (k := k) (fun c hc => h c (by omega)) (by omega)
      have := h n (by omega); omega
theorem ub_le (h : ∀ c, c < n → par c < c) {k : Nat} (hk : k < n) : ub n par k + 1000 ≤ 1000 * ((n - k : Nat) : Int) := by
  have h1 := pot_le h (d := n - k) (k := k) (by omega)
  have h2 := sumN_ge (f := fun c => if k ≤ c ∧ par c < k then ub n par c + 1000 else 0) (n := n) (k := k) (fun c _ => by
    have := ub_nonneg (n := n) (par := par) c
    show 0 ≤ (if k ≤ c ∧ par c < k then ub n par c + 1000 else 0)
    split <;> omega) hk
  rw [if_pos ⟨Nat.le_refl _, h k hk⟩] at h2
  unfold pot at h1
  omega
/-- Of every row: not below -1, not above the bound, and some number is not below 0. -/
theorem tab_bd (F : Fine n m par own cost) : ∀ {d i : Nat}, n ≤ i + d → i < n →
    (∀ s, s < m → -1 ≤ tab n m par own cost i s ∧ tab n m par own cost i s ≤ ub n par i) ∧ (∃ s, s < m ∧ 0 ≤ tab n m par own cost i s) ∧
    (own i = -1 → ∀ s, s < m → 0 ≤ tab n m par own cost i s) ∧ (0 ≤ own i → ∀ s, s < m → tab n m par own cost i s = if own i = s then 0 else -1)
  | 0, i, h, hi => by omega
  | d + 1, i, h, hi => by
    have hkid : ∀ s, s < m → ∀ c, c < n → i < c → 0 ≤ (bestK (cost s) (tab n m par own cost c) m).1 ∧ (bestK (cost s) (tab n m par own cost c) m).1 ≤ ub n par c + 1000 := by
      intro s hs c hc hic
      obtain ⟨h1, ⟨j, hj, hj0⟩, _⟩ := tab_bd F (d := d) (i := c) (by omega) hc
      rcases bestK_spec (c := cost s) (row := tab n m par own cost c) (A := ub n par c) (ub_nonneg _) (k := m) (fun j hj => F.cost1 s j hs hj) (fun j hj => (h1 j hj).2) with ⟨_, h3⟩ | ⟨o, _, ho, ho0, h4, h5, _⟩
      · have := h3 j hj; omega
      · have := h5 j hj hj0
        have := (h1 j hj).2
        have := F.cost1 s j hs hj
        have := F.cost1 s o hs ho
        constructor <;> omega
    have hsum : ∀ s, s < m → 0 ≤ sumN (fun c => if i < c ∧ par c = i then (bestK (cost s) (tab n m par own cost c) m).1 else 0) n ∧ sumN (fun c => if i < c ∧ par c = i then (bestK (cost s) (tab n m par own cost c) m).1 else 0) n ≤ ub n par i := by
      intro s hs
      constructor
      · exact sumN_nonneg fun c hc => by
          split
          · rename_i h2; exact (hkid s hs c hc h2.1).1
          · exact Int.le_refl _
      · rw [ub_eq hi]
        exact sumN_mono fun c hc => by
          split
          · rename_i h2; exact (hkid s hs c hc h2.1).2
          · exact Int.le_refl _
    have heq : ∀ s, tab n m par own cost i s = (if 0 ≤ own i ∧ own i ≠ s then -1 else 0) + sumN (fun c => if i < c ∧ par c = i then (bestK (cost s) (tab n m par own cost c) m).1 else 0) n := fun s => tab_eq hi s
    have hub := ub_nonneg (n := n) (par := par) i
    have ho := F.own1 i hi
    refine ⟨fun s hs => ?_, ?_, fun h0 s hs => ?_, fun h0 s hs => ?_⟩
    · rw [heq s]; have := hsum s hs; split <;> omega
    · by_cases h0 : 0 ≤ own i
      · refine ⟨(own i).toNat, by omega, ?_⟩
        rw [heq, if_neg (by omega)]; have := hsum (own i).toNat (by omega); omega
      · refine ⟨0, F.m1, ?_⟩
        rw [heq, if_neg (by omega)]; have := hsum 0 F.m1; omega
    · rw [heq, if_neg (by omega)]; have := hsum s hs; omega
    · have hz : sumN (fun c => if i < c ∧ par c = i then (bestK (cost s) (tab n m par own cost c) m).1 else 0) n = 0 := by
        refine (sumN_congr (g := fun _ => 0) fun c hc => ?_).trans (sumN_zero n)
        rw [if_neg]; intro h2; have := F.leaf i c hc h2.1 h2.2; omega
      rw [heq, hz]
      by_cases e : own i = s
      · rw [if_neg (fun h => h.2 e), if_pos e]; rfl
      · rw [if_pos ⟨h0, e⟩, if_neg e]; rfl
end
end Go.Proofs.Ytflikmllpimaiaa
