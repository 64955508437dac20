/- The reference's reader of texts, plain: it reads what the machine of Parse reads. -/
import Derived.Test.YtpjijbophjdgaaaGreatQ35
namespace Go.Proofs.YtpjijbophjdgaaaGreat
def nmLen : List UInt8 → Nat
  | [] => 0
  | c :: s => if c ∈ sp4 then 0 else nmLen s + 1
theorem nmLen_le : ∀ s : List UInt8, nmLen s ≤ s.length
  | [] => Nat.le_refl _
  | c :: s => by
    rw [nmLen, List.length_cons]
    have := nmLen_le s
    split <;> omega
theorem nmLen_take : ∀ (s : List UInt8), ∀ c ∈ s.take (nmLen s), c ∉ sp4
  | [], c, h => by simp at h
  | d :: s, c, h => by
    rw [nmLen] at h
    split at h
    · simp at h
    · rw [List.take_succ_cons, List.mem_cons] at h
      rcases h with rfl | h
      · assumption
      · exact nmLen_take s c h
theorem nmLen_app : ∀ (n : List UInt8) (d : UInt8) (s : List UInt8), (∀ c ∈ n, c ∉ sp4) → d ∈ sp4 → nmLen (n ++ d :: s) = n.length
  | [], d, s, _, hd => by rw [List.nil_append, nmLen, if_pos hd]; rfl
  | c :: n, d, s, h, hd => by
    rw [List.cons_append, nmLen, if_neg (h c (by simp)), nmLen_app n d s (fun x hx => h x (by simp [hx])) hd]; rfl
mutual
def rdN : Nat → List UInt8 → Option (RT × List UInt8)
  | 0, _ => none
  | _ + 1, [] => none
  | f + 1, c :: s => if c = 40 then rdK f [] s else if nmLen (c :: s) = 0 then none else some (.node ⟨((c :: s).take (nmLen (c :: s))).toArray⟩ [], (c :: s).drop (nmLen (c :: s)))
def rdK : Nat → List RT → List UInt8 → Option (RT × List UInt8)
  | 0, _, _ => none
  | f + 1, ks, s => match rdN f s with
    | none => none
    | some (_, []) => none
    | some (k, d :: s2) => if d = 41 then some (.node ByteArray.empty (ks ++ [k]), s2) else if d = 44 then rdK f (ks ++ [k]) s2 else none
end
mutual
theorem rdN_len : ∀ (f : Nat) (s : List UInt8) (r : RT) (l : List UInt8), rdN f s = some (r, l) → l.length < s.length
  | 0, s, r, l, h => by rw [rdN] at h; cases h
  | f + 1, [], r, l, h => by rw [rdN] at h; cases h
  | f + 1, c :: s, r, l, h => by
    rw [rdN] at h
    split at h
    · have := rdK_len f [] s r l h
      rw [List.length_cons]; omega
    · split at h
      · cases h
      · injection h with h
        injection h with h1 h2
        subst h2
        rw [List.length_drop]
        have := nmLen_le (c :: s)
        rw [List.length_cons] at this ⊢
        omega
theorem rdK_len : ∀ (f : Nat) (ks : List RT) (s : List UInt8) (r : RT) (l : List UInt8), rdK f ks s = some (r, l) → l.length < s.length
  | 0, ks, s, r, l, h => by rw [rdK] at h; cases h
  | f + 1, ks, s, r, l, h => by
    rw [rdK] at h
    split at h
    · cases h
    · cases h
    · rename_i k d s2 e
      have h1 := rdN_len f s k (d :: s2) e
      rw [List.length_cons] at h1
      split at h
      · injection h with h
        injection h with _ h
        subst h; omega
      · split at h
        · have := rdK_len f _ s2 r l h
          omega
        · cases h
end
theorem rd_fuel : ∀ (f g : Nat), (∀ s : List UInt8, 2 * s.length < f → 2 * s.length < g → rdN f s = rdN g s) ∧ (∀ (ks : List RT) (s : List UInt8), 2 * s.length + 1 < f → 2 * s.length + 1 < g → rdK f ks s = rdK g ks s)
  | 0, _ => ⟨fun s h => by omega, fun ks s h => by omega⟩
  | f + 1, 0 => ⟨fun s _ h => by omega, fun ks s _ h => by omega⟩
  | f + 1, g + 1 => by
    obtain ⟨h1, h2⟩ := rd_fuel f g
    refine ⟨fun s a b => ?_, fun ks s a b => ?_⟩
    · cases s with
      | nil => rw [rdN, rdN]
      | cons c s =>
        rw [List.length_cons] at a b
        rw [rdN, rdN]
        split
        · exact h2 [] s (by omega) (by omega)
        · rfl
    · rw [rdK, rdK, h1 s (by omega) (by omega)]
      cases e : rdN g s with
      | none => rfl
      | some q =>
        obtain ⟨k, l⟩ := q
        cases l with
        | nil => rfl
        | cons d s2 =>
          have := rdN_len g s k _ e
          rw [List.length_cons] at this
          show (if d = 41 then _ else if d = 44 then _ else _) = (if d = 41 then _ else if d = 44 then _ else _)
          split
          · rfl
          · split
            · exact h2 _ _ (by omega) (by omega)
            · rfl
def rdn (s : List UInt8) : Option (RT × List UInt8) := rdN (2 * s.length + 1) s
def rdk (ks : List RT) (s : List UInt8) : Option (RT × List UInt8) := rdK (2 * s.length + 2) ks s
theorem rdn_open (s : List UInt8) : rdn (40 :: s) = rdk [] s := by
  unfold rdn rdk
  rw [rdN, if_pos rfl]
  exact (rd_fuel _ _).2 _ _ (by simp; omega) (by simp)
theorem rdn_name {c : UInt8} (s : List UInt8) (h : c ≠ 40) : rdn (c :: s) = if nmLen (c :: s) = 0 then none else some (.node ⟨((c :: s).take (nmLen (c :: s))).toArray⟩ [], (c :: s).drop (nmLen (c :: s))) := by
  unfold rdn
  rw [rdN, if_neg h]
theorem rdk_eq (ks : List RT) (s : List UInt8) : rdk ks s = match rdn s with
    | none => none
    | some (_, []) => none
    | some (k, d :: s2) => if d = 41 then some (.node ByteArray.empty (ks ++ [k]), s2) else if d = 44 then rdk (ks ++ [k]) s2 else none := by
  unfold rdk rdn
  rw [rdK]
  cases e : rdN (2 * s.length + 1) s with
  | none => rfl
  | some q =>
    obtain ⟨k, l⟩ := q
    cases l with
    | nil => rfl
    | cons d s2 =>
      have := rdN_len _ s k _ e
      rw [List.length_cons] at this
      show (if d = 41 then _ else if d = 44 then _ else _) = (if d = 41 then _ else if d = 44 then _ else _)
      split
      · rfl
      · split
        · exact (rd_fuel _ _).2 _ _ (by omega) (by omega)
        · rfl
theorem rd_text : ∀ (f : Nat), (∀ (s : List UInt8) (r : RT) (l : List UInt8), rdN f s = some (r, l) → s = txR r ++ l ∧ OkP r) ∧ (∀ (ks : List RT) (s : List UInt8) (r : RT) (l : List UInt8), rdK f ks s = some (r, l) → ∃ k ks2, r = .node ByteArray.empty (ks ++ k :: ks2) ∧ s = txR k ++ txRs ks2 ++ 41 :: l ∧ ∀ q ∈ k :: ks2, OkP q)
  | 0 => ⟨fun s r l h => (by rw [rdN] at h; cases h), fun ks s r l h => (by rw [rdK] at h; cases h)⟩
  | f + 1 => by
    obtain ⟨h1, h2⟩ := rd_text f
    refine ⟨fun s r l h => ?_, fun ks s r l h => ?_⟩
    · cases s with
      | nil => rw [rdN] at h; cases h
      | cons c s =>
        rw [rdN] at h
        split at h
        · rename_i hc
          obtain ⟨k, ks2, rfl, h4, h5⟩ := h2 [] s r l h
          refine ⟨?_, okp_node rfl (by simp) (by simpa using h5)⟩
          rw [List.nil_append, txR, hc, h4]; simp
        · split at h
          · cases h
          · rename_i hc hn
            injection h with h
            injection h with h3 h4
            subst h3; subst h4
            refine ⟨by rw [txR, List.take_append_drop], okp_leaf ?_ (by simpa using nmLen_take (c :: s))⟩
            show List.take _ _ ≠ []
            intro e
            have := congrArg List.length e
            rw [List.length_take] at this
            have h5 := nmLen_le (c :: s)
            simp only [List.length_nil] at this
            omega
    · rw [rdK] at h
      split at h
      · cases h
      · cases h
      · rename_i k d s2 e
        obtain ⟨h3, h4⟩ := h1 s k _ e
        split at h
        · rename_i hd
          injection h with h
          injection h with h5 h6
          subst h5; subst h6
          exact ⟨k, [], rfl, by rw [h3, hd, txRs]; simp, by simpa using h4⟩
        · split at h
          · rename_i _ hd
            obtain ⟨k2, ks2, rfl, h6, h7⟩ := h2 _ _ _ _ h
            refine ⟨k, k2 :: ks2, by simp, ?_, fun q hq => ?_⟩
            · rw [h3, hd, h6, txRs]; simp
            · rcases List.mem_cons.1 hq with rfl | hq
              · exact h4
              · exact h7 q hq
          · cases h
mutual
theorem rdn_tx : ∀ (r : RT), OkP r → ∀ (d : UInt8) (s : List UInt8), d ∈ sp4 → rdn (txR r ++ d :: s) = some (r, d :: s)
  | .node nm [], h, d, s, hd => by
    obtain ⟨_, h1⟩ := h _ (by rw [subR]; exact List.mem_cons_self)
    obtain ⟨h1, h2⟩ := h1 rfl
    have h1 : nm.data.toList ≠ [] := h1
    have h2 : ∀ c ∈ nm.data.toList, c ∉ sp4 := h2
    rw [txR]
    cases hn : nm.data.toList with
    | nil => exact absurd hn h1
    | cons c n =>
      rw [hn] at h2
      have hc : c ≠ 40 := fun e => h2 c (by simp) (by rw [e]; decide)
      have hl := nmLen_app (c :: n) d s h2 hd
      rw [List.cons_append] at hl ⊢
      rw [rdn_name _ hc, hl, if_neg (by simp), ← List.cons_append, List.take_left, List.drop_left]
      have e : (⟨(c :: n).toArray⟩ : ByteArray) = nm := ba_ext (by rw [hn])
      rw [e]
  | .node nm (k :: ks), h, d, s, hd => by
    obtain ⟨h1, _⟩ := h _ (by rw [subR]; exact List.mem_cons_self)
    have h1 : nm = ByteArray.empty := nm_empty (h1 (by simp [RT.kids]))
    have e : txR k ++ txRs ks ++ [41] ++ d :: s = (txR k ++ txRs ks) ++ 41 :: (d :: s) := by simp
    rw [txR, List.cons_append, rdn_open, e, h1]
    exact rdk_tx (k :: ks) (by simp) (fun q hq => okp_kid h hq) [] (d :: s)
theorem rdk_tx : ∀ (qs : List RT), qs ≠ [] → (∀ q ∈ qs, OkP q) → ∀ (Z : List RT) (s : List UInt8), rdk Z ((match qs with | [] => [] | k :: ks => txR k ++ txRs ks) ++ 41 :: s) = some (.node ByteArray.empty (Z ++ qs), s)
  | [], h, _, _, _ => absurd rfl h
  | [k], _, h, Z, s => by
    show rdk Z ((txR k ++ txRs []) ++ 41 :: s) = _
    rw [rdk_eq, txRs, List.append_nil, rdn_tx k (h k (by simp)) 41 s (by decide)]
    rfl
  | k :: k2 :: ks, _, h, Z, s => by
    have e : (txR k ++ txRs (k2 :: ks)) ++ 41 :: s = txR k ++ 44 :: (txR k2 ++ txRs ks ++ 41 :: s) := by rw [txRs]; simp
    have ih := rdk_tx (k2 :: ks) (by simp) (fun q hq => h q (by simp [hq])) (Z ++ [k]) s
    show rdk Z ((txR k ++ txRs (k2 :: ks)) ++ 41 :: s) = _
    rw [e, rdk_eq, rdn_tx k (h k (by simp)) 44 _ (by decide)]
    show (if (44 : UInt8) = 41 then _ else if (44 : UInt8) = 44 then rdk (Z ++ [k]) (txR k2 ++ txRs ks ++ 41 :: s) else none) = _
    rw [if_neg (by decide), if_pos rfl]
    have ih : rdk (Z ++ [k]) (txR k2 ++ txRs ks ++ 41 :: s) = _ := ih
    rw [ih]; simp
end
theorem rdn_par {s : List UInt8} {r : RT} : rdn s = some (r, [59]) ↔ paR s = some r := by
  constructor
  · intro h
    obtain ⟨h1, h2⟩ := (rd_text _).1 s r [59] h
    rw [h1]; exact paR_tx h2
  · intro h
    obtain ⟨h1, h2⟩ := read_text h
    rw [h1]; exact rdn_tx r h2 59 [] (by decide)
theorem rdn_size {s : List UInt8} {r : RT} {l : List UInt8} (h : rdn s = some (r, l)) : sizeR r ≤ s.length := by
  obtain ⟨h1, h2⟩ := (rd_text _).1 s r l h
  have := (tx_size r h2).1
  rw [h1, List.length_append]; omega
end Go.Proofs.YtpjijbophjdgaaaGreat
