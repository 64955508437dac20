/- Plain laws of the table: an unknown leaf, doubled costs, least costs. -/
import Derived.Test.YtflikmllpimaiaaS10
namespace Go.Proofs.Ytflikmllpimaiaa
section
variable {n m : Nat} {par own own' : Nat → Int} {cost : Nat → Nat → Int}
/-- a is no more than b, where b is a number. -/
def Lei (a b : Int) : Prop := b < 0 ∨ (0 ≤ a ∧ a ≤ b)
theorem bestK_lei {c r r' : Nat → Int} {A : Int} (hA : 0 ≤ A) {k : Nat} (hc : ∀ j, j < k → 0 ≤ c j ∧ c j ≤ 1000) (hr : ∀ j, j < k → r j ≤ A) (hr' : ∀ j, j < k → r' j ≤ A) (h : ∀ j, j < k → Lei (r' j) (r j)) : Lei (bestK c r' k).1 (bestK c r k).1 := by
  rcases bestK_spec hA (c := c) (row := r) hc hr with ⟨h1, _⟩ | ⟨o, _, ho, h3, h4, _, _⟩
  · left; omega
  · right
    have h5 := h o ho
    have hco := hc o ho
    rcases h5 with h5 | ⟨h5, h6⟩
    · omega
    · rcases bestK_spec hA (c := c) (row := r') hc hr' with ⟨_, h7⟩ | ⟨o', _, ho', h8, h9, h10, _⟩
      · have := h7 o ho; omega
      · have := h10 o ho h5
        have := hc o' ho'
        omega
theorem kid_best (F : Fine n m par own cost) {s c : Nat} (hs : s < m) (hc : c < n) : 0 ≤ (bestK (cost s) (tab n m par own cost c) m).1 := by
  obtain ⟨h1, ⟨j, hj, hj0⟩, _⟩ := tab_bd F (d := n) (i := c) (by omega) hc
  have hA := ub_nonneg (n := n) (par := par) c
  rcases bestK_spec hA (c := cost s) (row := tab n m par own cost c) (k := m) (fun j hj => F.cost1 s j hs hj) (fun j hj => (h1 j hj).2) with ⟨_, h3⟩ | ⟨o, _, ho, h3, h4, _, _⟩
  · have := h3 j hj; omega
  · have := F.cost1 s o hs ho; omega
theorem tab_le_far (F : Fine n m par own cost) {c : Nat} (hc : c < n) {j : Nat} (hj : j < m) : tab n m par own cost c j ≤ 1000 * (n : Int) := by
  have h1 := ((tab_bd F (d := n) (i := c) (by omega) hc).1 j hj).2
  have h2 := ub_le (par := par) F.parlt hc
  have : ((n - c : Nat) : Int) ≤ (n : Int) := by omega
  omega
/-- Fewer known leaves: no greater numbers. -/
theorem tab_mono (F : Fine n m par own cost) (F' : Fine n m par own' cost) (h : ∀ i, i < n → own' i = own i ∨ own' i = -1) : ∀ {d i : Nat}, n ≤ i + d → i < n → ∀ s, s < m → Lei (tab n m par own' cost i s) (tab n m par own cost i s)
  | 0, i, h0, hi, s, hs => by omega
  | d + 1, i, h0, hi, s, hs => by
    have e1 := tab_eq (m := m) (par := par) (own := own) (cost := cost) hi s
    have e2 := tab_eq (m := m) (par := par) (own := own') (cost := cost) hi s
    unfold rowF at e1 e2
    by_cases hb : 0 ≤ own i ∧ own i ≠ s
    · left
      have := (tab_bd F (d := n) (i := i) (by omega) hi).2.2.2 hb.1 s hs
      rw [if_neg hb.2] at this; omega
    · have hb' : ¬ (0 ≤ own' i ∧ own' i ≠ s) := by
        rcases h i hi with e | e
        · rw [e]; exact hb
        · omega
      rw [if_neg hb] at e1
      rw [if_neg hb'] at e2
      right
      rw [e1, e2]
      constructor
      · have := sumN_nonneg (f := fun c => if i < c ∧ par c = i then (bestK (cost s) (tab n m par own' cost c) m).1 else 0) (n := n) (fun c hc => by
          split
          · exact kid_best F' hs hc
          · exact Int.le_refl _)
        omega
      · have := sumN_mono (f := fun c => if i < c ∧ par c = i then (bestK (cost s) (tab n m par own' cost c) m).1 else 0) (g := fun c => if i < c ∧ par c = i then (bestK (cost s) (tab n m par own cost c) m).1 else 0) (n := n) (fun c hc => by
          show (if i < c ∧ par c = i then _ else (0 : Int)) ≤ (if i < c ∧ par c = i then _ else 0)
          split
          · rename_i hk
            have hl := bestK_lei (A := 1000 * (n : Int)) (by omega) (k := m) (c := cost s) (r := tab n m par own cost c) (r' := tab n m par own' cost c) (fun j hj => F.cost1 s j hs hj) (fun j hj => tab_le_far F hc hj) (fun j hj => tab_le_far F' hc hj)
              (fun j hj => tab_mono F F' h (d := d) (i := c) (by omega) hc j hj)
            have := kid_best F hs hc
            rcases hl with hl | hl
            · omega
            · exact hl.2
          · exact Int.le_refl _)
        omega
/-- Twice, if it is a number. -/
def dbl (x : Int) : Int := if x < 0 then x else 2 * x
theorem bestK_dbl {c r : Nat → Int} : ∀ {k : Nat}, (∀ j, j < k → 0 ≤ c j) → (bestK (fun j => 2 * c j) (fun j => dbl (r j)) k) = (dbl (bestK c r k).1, (bestK c r k).2) ∧ -1 ≤ (bestK c r k).1
  | 0, _ => ⟨rfl, by simp [bestK]⟩
  | k + 1, hc => by
    obtain ⟨h1, h2⟩ := bestK_dbl (c := c) (r := r) (k := k) fun j hj => hc j (by omega)
    have hck := hc k (by omega)
    rw [bestK_succ, bestK_succ, h1]
    by_cases hr : r k < 0
    · have e : dbl (r k) < 0 := by unfold dbl; rw [if_pos hr]; exact hr
      rw [if_pos e, if_pos hr]; exact ⟨rfl, h2⟩
    · have e : dbl (r k) = 2 * r k := by unfold dbl; rw [if_neg hr]
      rw [e, if_neg (by omega), if_neg hr]
      by_cases hb : (bestK c r k).1 < 0
      · rw [if_pos (.inl (by unfold dbl; rw [if_pos hb]; exact hb)), if_pos (.inl hb)]
        refine ⟨?_, by simp only; omega⟩
        unfold dbl; simp only; rw [if_neg (by omega)]
        congr 1; omega
      · have e2 : dbl (bestK c r k).1 = 2 * (bestK c r k).1 := by unfold dbl; rw [if_neg hb]
        by_cases hlt : c k + r k < (bestK c r k).1
        · rw [if_pos (.inr (by simp only [e2]; omega)), if_pos (.inr hlt)]
          refine ⟨?_, by simp only; omega⟩
          unfold dbl; simp only; rw [if_neg (by omega)]
          congr 1; omega
        · rw [if_neg (by simp only [e2]; omega), if_neg (by omega)]
          exact ⟨rfl, h2⟩
theorem bestK_dbl' {c c' r r' : Nat → Int} {k : Nat} (hc : ∀ j, j < k → 0 ≤ c j) (h1 : ∀ j, j < k → c' j = 2 * c j) (h2 : ∀ j, j < k → r' j = dbl (r j)) : (bestK c' r' k).1 = dbl (bestK c r k).1 := by
  rw [bestK_congr h1 h2, (bestK_dbl hc).1]
theorem sumN_dbl {f g : Nat → Int} : ∀ {k : Nat}, (∀ c, c < k → g c = 2 * f c) → sumN g k = 2 * sumN f k
  | 0, _ => rfl
  | k + 1, h => by rw [sumN_succ, sumN_succ, sumN_dbl fun c hc => h c (by omega), h k (by omega)]; omega
theorem tab_dbl {cost' : Nat → Nat → Int} (F : Fine n m par own cost) (h : ∀ a b, a < m → b < m → cost' a b = 2 * cost a b) : ∀ {d i : Nat}, n ≤ i + d → i < n → ∀ s, s < m → tab n m par own cost' i s = dbl (tab n m par own cost i s)
  | 0, i, h0, hi, s, hs => by omega
  | d + 1, i, h0, hi, s, hs => by
    have e1 := tab_eq (m := m) (par := par) (own := own) (cost := cost) hi s
    have e2 := tab_eq (m := m) (par := par) (own := own) (cost := cost') hi s
    unfold rowF at e1 e2
    have hS : sumN (fun c => if i < c ∧ par c = i then (bestK (cost' s) (tab n m par own cost' c) m).1 else 0) n = 2 * sumN (fun c => if i < c ∧ par c = i then (bestK (cost s) (tab n m par own cost c) m).1 else 0) n := by
      refine sumN_dbl fun c hc => ?_
      show (if i < c ∧ par c = i then _ else (0 : Int)) = 2 * (if i < c ∧ par c = i then _ else 0)
      split
      · rename_i hk
        rw [bestK_dbl' (c := cost s) (r := tab n m par own cost c) (fun j hj => (F.cost1 s j hs hj).1) (fun j hj => h s j hs hj) (fun j hj => tab_dbl F h (d := d) (i := c) (by omega) hc j hj)]
        have := kid_best F hs hc
        unfold dbl; rw [if_neg (by omega)]
      · rfl
    have hN := sumN_nonneg (f := fun c => if i < c ∧ par c = i then (bestK (cost s) (tab n m par own cost c) m).1 else 0) (n := n) (fun c hc => by
      split
      · exact kid_best F hs hc
      · exact Int.le_refl _)
    by_cases hb : 0 ≤ own i ∧ own i ≠ s
    · have hz : sumN (fun c => if i < c ∧ par c = i then (bestK (cost s) (tab n m par own cost c) m).1 else 0) n = 0 := by
        refine (sumN_congr (g := fun _ => 0) fun c hc => ?_).trans (sumN_zero n)
        rw [if_neg]; intro h2; have := F.leaf i c hc h2.1 h2.2; omega
      rw [hS, hz, if_pos hb] at e2
      rw [hz, if_pos hb] at e1
      rw [e1, e2]; rfl
    · rw [if_neg hb] at e1 e2
      rw [e1, e2, hS]
      unfold dbl; rw [if_neg (by omega)]; omega
/-- What is below node k. -/
def psi (n : Nat) (par : Nat → Int) (T : Nat → Int) (k : Nat) : Int := sumN (fun c => if k ≤ c ∧ par c < k then T c else 0) n
theorem psi_step (h : ∀ c, c < n → par c < c) (T : Nat → Int) {k : Nat} (hk : k < n) : psi n par T k + sumN (fun c => if k < c ∧ par c = k then T c else 0) n = T k + psi n par T (k + 1) := by
  have h1 : psi n par T k = sumN (fun c => if k + 1 ≤ c ∧ par c < k then T c else 0) n + sumN (fun c => if c = k then T k else 0) n := by
    rw [← sumN_add]; unfold psi
    refine sumN_congr fun c hc => ?_
    by_cases e : c = k
    · subst e
      have := h c hc
      rw [if_pos ⟨Nat.le_refl _, this⟩, if_neg (by omega), if_pos rfl]; omega
    · by_cases h2 : k ≤ c ∧ par c < k
      · rw [if_pos h2, if_pos ⟨by omega, h2.2⟩, if_neg e]; omega
      · rw [if_neg h2, if_neg (fun h3 => h2 ⟨by omega, h3.2⟩), if_neg e]; rfl
  have h2 : psi n par T (k + 1) = sumN (fun c => if k + 1 ≤ c ∧ par c < k then T c else 0) n + sumN (fun c => if k < c ∧ par c = k then T c else 0) n := by
    rw [← sumN_add]; unfold psi
    refine sumN_congr fun c _ => ?_
    by_cases h3 : k + 1 ≤ c
    · by_cases h4 : par c = k
      · rw [if_pos ⟨h3, by omega⟩, if_neg (by omega), if_pos ⟨h3, h4⟩]; omega
      · by_cases h5 : par c < k
        · rw [if_pos ⟨h3, by omega⟩, if_pos ⟨h3, h5⟩, if_neg (fun h => h4 h.2)]; omega
        · rw [if_neg (by omega), if_neg (fun h => h5 h.2), if_neg (fun h => h4 h.2)]; rfl
    · rw [if_neg (fun h => h3 h.1), if_neg (fun h => h3 h.1), if_neg (fun h => h3 (by omega))]; rfl
  rw [sumN_one, if_pos hk] at h1
  omega
theorem psi_end (T : Nat → Int) : psi n par T n = 0 := by
  unfold psi
  refine (sumN_congr (g := fun _ => 0) fun c hc => ?_).trans (sumN_zero n)
  rw [if_neg (by omega)]
theorem psi_zero (h0 : par 0 < 0) (h1 : ∀ c, 0 < c → c < n → 0 ≤ par c) (hn : 0 < n) (T : Nat → Int) : psi n par T 0 = T 0 := by
  unfold psi
  have : sumN (fun c => if 0 ≤ c ∧ par c < (0 : Nat) then T c else 0) n = sumN (fun c => if c = 0 then T 0 else 0) n := sumN_congr fun c hc => by
    by_cases e : c = 0
    · subst e; rw [if_pos ⟨Nat.le_refl _, h0⟩, if_pos rfl]
    · have := h1 c (by omega) hc
      rw [if_neg (by simp; omega), if_neg e]
  rw [this, sumN_one, if_pos hn]
/-- A number that every node's children bound: the whole. -/
theorem whole_le (h : ∀ c, c < n → par c < c) (h0 : par 0 < 0) (h1 : ∀ c, 0 < c → c < n → 0 ≤ par c) (hn : 0 < n) {T N : Nat → Int}
    (hT : ∀ k, k < n → T k ≤ N k + sumN (fun c => if k < c ∧ par c = k then T c else 0) n) : T 0 ≤ sumN N n := by
  have hk : ∀ k, k ≤ n → psi n par T 0 ≤ sumN N k + psi n par T k := fun k => by
    induction k with
    | zero => intro _; simp [sumN]
    | succ k ih =>
      intro hk
      have h2 := ih (by omega)
      have h3 := psi_step h T (k := k) (by omega)
      have h4 := hT k (by omega)
      rw [sumN_succ]; omega
  have h2 := hk n (Nat.le_refl _)
  rw [psi_end, psi_zero h0 h1 hn] at h2
  omega
theorem whole_eq (h : ∀ c, c < n → par c < c) (h0 : par 0 < 0) (h1 : ∀ c, 0 < c → c < n → 0 ≤ par c) (hn : 0 < n) {T N : Nat → Int}
    (hT : ∀ k, k < n → T k = N k + sumN (fun c => if k < c ∧ par c = k then T c else 0) n) : T 0 = sumN N n := by
  have hk : ∀ k, k ≤ n → psi n par T 0 = sumN N k + psi n par T k := fun k => by
    induction k with
    | zero => intro _; simp [sumN]
    | succ k ih =>
      intro hk
      have h2 := ih (by omega)
      have h3 := psi_step h T (k := k) (by omega)
      have h4 := hT k (by omega)
      rw [sumN_succ]; omega
  have h2 := hk n (Nat.le_refl _)
  rw [psi_end, psi_zero h0 h1 hn] at h2
  omega
end
end Go.Proofs.Ytflikmllpimaiaa
