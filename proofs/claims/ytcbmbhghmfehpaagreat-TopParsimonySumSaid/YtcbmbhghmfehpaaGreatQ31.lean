/- The split of a character of two states: plain. A character whose split is in a tree needs one change: plain. The first pair that is not compatible; how many splits are of one tree only: plain. The laws SplitStates, SplitCompatible: plain. Sets that are nested or apart, each of two elements or more: fewer than there are elements. So the tree of splits is small. -/
import Derived.Test.YtcbmbhghmfehpaaGreatQ8
import Derived.Test.YtcbmbhghmfehpaaGreatQ30
import Derived.Test.YtcbmbhghmfehpaaGreatQ29
import Derived.Test.YtcbmbhghmfehpaaGreatQ26
import Derived.Test.YtcbmbhghmfehpaaGreatQ28
namespace Go.Proofs.YtcbmbhghmfehpaaGreat
open Go.RowKit Go.Deep
def badS (s : Int) : Bool := decide (s < -1) || decide (16 ≤ s)
def osErr (st : List Int) : Int := if 32 < st.length then 4 else if (List.range st.length).any (fun j => badS (gi st j)) then 2 else 0
def osO (st : List Int) (k : Nat) : List Int := memK (fun i => gi st i.toNat != gi st 0) k
def cntS (st : List Int) (s : Int) : Nat → Nat
  | 0 => 0
  | k + 1 => cntS st s k + if gi st k = s then 1 else 0
def ctK (st : List Int) : Nat → List (Int × Value)
  | 0 => []
  | k + 1 => putJ (ctK st k) (gi st k) (.int .i64 ((cntS st (gi st k) k : Nat) + 1 : Int))
theorem ctK_uniq (st : List Int) : ∀ k, UniqI (ctK st k)
  | 0 => List.nodup_nil
  | k + 1 => putJ_uniq (ctK_uniq st k) _ _
theorem ctK_look (st : List Int) (s : Int) : ∀ k, ((ctK st k).lookup s).getD (.int .i64 0) = .int .i64 (cntS st s k : Nat)
  | 0 => rfl
  | k + 1 => by
    rw [ctK, lookup_putJ, cntS]
    by_cases h : s = gi st k
    · rw [if_pos h, if_pos h.symm, h]; simp
    · rw [if_neg h, if_neg (fun e => h e.symm), ctK_look st s k]; rfl
theorem cntS_le (st : List Int) (s : Int) : ∀ k, cntS st s k ≤ k
  | 0 => Nat.le_refl _
  | k + 1 => by have := cntS_le st s k; rw [cntS]; split <;> omega
theorem cntS_pos {st : List Int} {s : Int} : ∀ {k : Nat}, 0 < cntS st s k ↔ ∃ j, j < k ∧ gi st j = s
  | 0 => by simp [cntS]
  | k + 1 => by
    rw [cntS]
    constructor
    · intro h
      by_cases e : gi st k = s
      · exact ⟨k, by omega, e⟩
      · rw [if_neg e] at h
        obtain ⟨j, hj, e⟩ := cntS_pos.1 h
        exact ⟨j, by omega, e⟩
    · rintro ⟨j, hj, e⟩
      by_cases hjk : j = k
      · subst hjk; rw [if_pos e]; omega
      · have := cntS_pos.2 ⟨j, (by omega : j < k), e⟩
        omega
theorem ctK_mem {st : List Int} {s : Int} : ∀ {k : Nat}, s ∈ (ctK st k).map (·.1) ↔ ∃ j, j < k ∧ gi st j = s
  | 0 => by simp [ctK]
  | k + 1 => by
    rw [ctK, putJ_keys]
    have ih := ctK_mem (st := st) (s := s) (k := k)
    constructor
    · intro h
      split at h
      · rcases List.mem_append.1 h with h | h
        · obtain ⟨j, hj, e⟩ := ih.1 h; exact ⟨j, by omega, e⟩
        · exact ⟨k, by omega, (List.mem_singleton.1 h).symm⟩
      · obtain ⟨j, hj, e⟩ := ih.1 h; exact ⟨j, by omega, e⟩
    · rintro ⟨j, hj, e⟩
      by_cases hjk : j = k
      · subst hjk
        split
        · exact List.mem_append_right _ (by rw [e]; simp)
        · rename_i h2
          by_cases h3 : gi st j ∈ (ctK st j).map (·.1)
          · rw [← e]; exact h3
          · exact absurd (by rw [lookupI_none.2 h3]; rfl) h2
      · have := ih.2 ⟨j, by omega, e⟩
        split
        · exact List.mem_append_left _ this
        · exact this
theorem ctK_len (st : List Int) : ∀ k, (ctK st k).length ≤ k
  | 0 => Nat.le_refl _
  | k + 1 => by
    have h := ctK_len st k
    rw [ctK]; unfold putJ
    split <;> simp <;> omega
def osB (st : List Int) : Bool := !(decide (0 < cntS st (-1) st.length) || decide ((ctK st st.length).length ≠ 2) || decide ((osO st st.length).length < 2) || decide ((st.length : Int) - 2 < ((osO st st.length).length : Int)))
structure OsOk (st : List Int) : Prop where
  known : ∀ i, i < st.length → 0 ≤ gi st i
  two : ∀ i j, i < st.length → j < st.length → gi st i ≠ gi st 0 → gi st j ≠ gi st 0 → gi st i = gi st j
  many : 2 ≤ (osO st st.length).length
  left : (osO st st.length).length + 2 ≤ st.length
theorem mem_osO {st : List Int} {k : Nat} {x : Int} : x ∈ osO st k ↔ 0 ≤ x ∧ x < (k : Int) ∧ gi st x.toNat ≠ gi st 0 := by
  unfold osO; rw [mem_memK]; simp
theorem os_ge {st : List Int} (h : osErr st = 0) : st.length ≤ 32 ∧ ∀ i, i < st.length → -1 ≤ gi st i ∧ gi st i < 16 := by
  unfold osErr at h
  split at h
  · exact absurd h (by decide)
  · split at h
    · exact absurd h (by decide)
    · rename_i h1 h2
      refine ⟨by omega, fun i hi => ?_⟩
      have h3 := any_false (by simpa using h2 : (List.range st.length).any (fun j => badS (gi st j)) = false) hi
      unfold badS at h3
      simp only [Bool.or_eq_false_iff, decide_eq_false_iff_not] at h3
      omega
theorem nodup_subL : ∀ {p q : List Int}, p.Nodup → (∀ x ∈ p, x ∈ q) → p.length ≤ q.length
  | [], _, _, _ => Nat.zero_le _
  | x :: p, q, hn, h => by
    rw [List.nodup_cons] at hn
    have h1 := nodup_subL (p := p) (q := q.erase x) hn.2 fun y hy => (List.mem_erase_of_ne (fun e => hn.1 (by rw [← e]; exact hy))).2 (h y (by simp [hy]))
    rw [List.length_erase_of_mem (h x (by simp))] at h1
    have := List.length_pos_of_mem (h x (by simp))
    rw [List.length_cons]; omega
theorem os_iff {st : List Int} (h : osErr st = 0) : osB st = true ↔ OsOk st := by
  obtain ⟨h32, hge⟩ := os_ge h
  have hun : ((ctK st st.length).map (·.1)).Nodup := ctK_uniq st st.length
  have hmem := fun s => ctK_mem (st := st) (s := s) (k := st.length)
  have hkl : ((ctK st st.length).map (·.1)).length = (ctK st st.length).length := List.length_map _
  generalize (ctK st st.length).map (·.1) = K at hun hmem hkl
  have hdef : osB st = true ↔ ¬ 0 < cntS st (-1) st.length ∧ K.length = 2 ∧ 2 ≤ (osO st st.length).length ∧ (osO st st.length).length + 2 ≤ st.length := by
    unfold osB
    rw [Bool.not_eq_true', Bool.or_eq_false_iff, Bool.or_eq_false_iff, Bool.or_eq_false_iff, decide_eq_false_iff_not, decide_eq_false_iff_not, decide_eq_false_iff_not, decide_eq_false_iff_not, hkl]
    constructor
    · rintro ⟨⟨⟨a, b⟩, c⟩, d⟩; exact ⟨a, by omega, by omega, by omega⟩
    · rintro ⟨a, b, c, d⟩; exact ⟨⟨⟨a, by omega⟩, by omega⟩, by omega⟩
  rw [hdef]
  have hkn : (¬ 0 < cntS st (-1) st.length) ↔ ∀ i, i < st.length → 0 ≤ gi st i := by
    rw [cntS_pos]
    constructor
    · intro h1 i hi
      have := hge i hi
      by_cases e : gi st i = -1
      · exact absurd ⟨i, hi, e⟩ h1
      · omega
    · rintro h1 ⟨j, hj, e⟩
      have := h1 j hj; omega
  rw [hkn]
  have key : 2 ≤ (osO st st.length).length → (osO st st.length).length + 2 ≤ st.length → (K.length = 2 ↔ ∀ i j, i < st.length → j < st.length → gi st i ≠ gi st 0 → gi st j ≠ gi st 0 → gi st i = gi st j) := by
    intro h1 h2
    have hm0 : gi st 0 ∈ K := (hmem _).2 ⟨0, by omega, rfl⟩
    obtain ⟨x, hx⟩ := List.exists_mem_of_length_pos (show 0 < (osO st st.length).length by omega)
    obtain ⟨x0, x1, x2⟩ := mem_osO.1 hx
    have hmx : gi st x.toNat ∈ K := (hmem _).2 ⟨x.toNat, by omega, rfl⟩
    constructor
    · intro hK i j hi hj ei ej
      have hmi : gi st i ∈ K := (hmem _).2 ⟨i, hi, rfl⟩
      have hmj : gi st j ∈ K := (hmem _).2 ⟨j, hj, rfl⟩
      by_cases e : gi st i = gi st j
      · exact e
      · have h3 : ([gi st 0, gi st i, gi st j] : List Int).Nodup := by
          simp [List.nodup_cons, e, Ne.symm ei, Ne.symm ej]
        have h4 := nodup_subL h3 (q := K) (fun y hy => by
          simp only [List.mem_cons, List.not_mem_nil, or_false] at hy
          rcases hy with rfl | rfl | rfl
          · exact hm0
          · exact hmi
          · exact hmj)
        simp at h4; omega
    · intro hall
      have h3 : ([gi st 0, gi st x.toNat] : List Int).Nodup := by simp [List.nodup_cons, Ne.symm x2]
      have h4 := nodup_subL h3 (q := K) (fun y hy => by
        simp only [List.mem_cons, List.not_mem_nil, or_false] at hy
        rcases hy with rfl | rfl
        · exact hm0
        · exact hmx)
      have h5 := nodup_subL hun (q := [gi st 0, gi st x.toNat]) (fun y hy => by
        obtain ⟨j, hj, rfl⟩ := (hmem y).1 hy
        by_cases e : gi st j = gi st 0
        · simp [e]
        · simp [hall j x.toNat hj (by omega) e x2])
      simp at h4 h5; omega
  constructor
  · rintro ⟨a, b, c, d⟩
    exact ⟨a, (key c d).1 b, c, d⟩
  · rintro ⟨a, b, c, d⟩
    exact ⟨a, (key c d).2 b, c, d⟩
def osR (st : List Int) : List Int := if osErr st = 0 ∧ osB st = true then osO st st.length else []
def osV (st : List Int) : Bool := decide (osErr st = 0) && osB st
end Go.Proofs.YtcbmbhghmfehpaaGreat
namespace Go.Proofs.YtcbmbhghmfehpaaGreat
def ownP (t : Tre) (names : List ByteArray) (st : List Int) (n : Nat) : List Int := (List.range n).map fun j => gi st (fdN names (gs t.ns (gi (leavesL t.ns) j).toNat)).toNat
theorem ownP_len (t : Tre) (names : List ByteArray) (st : List Int) (n : Nat) : (ownP t names st n).length = n := by simp [ownP]
theorem ownP_gi {t : Tre} {names : List ByteArray} {st : List Int} {n j : Nat} (h : j < n) : gi (ownP t names st n) j = gi st (fdN names (gs t.ns (gi (leavesL t.ns) j).toNat)).toNat := by simp [ownP, gi, h]
theorem ownP_succ (t : Tre) (names : List ByteArray) (st : List Int) (n : Nat) : ownP t names st (n + 1) = ownP t names st n ++ [gi st (fdN names (gs t.ns (gi (leavesL t.ns) n).toNat)).toNat] := by simp [ownP, List.range_succ]
theorem hit_par {ps : List Int} (hok : pOkB ps = true) {k c : Nat} (hc : c < ps.length) (h0 : 0 < c) (hne : c ≠ k) : hitB ps k (gi ps c).toNat = hitB ps k c := by
  have hpar := pOkB_par hok hc h0
  have hpl : (gi ps c).toNat < c := by omega
  unfold hitB
  by_cases hk : k < c
  · rw [climb_step hok hc hk]
  · rw [climb_stop (show ¬ k < c from hk), climb_stop (show ¬ k < (gi ps c).toNat by omega), decide_eq_false (show ¬ c = k from hne), decide_eq_false (by omega)]
section
variable {t : Tre} {names : List ByteArray} {st : List Int}
theorem leaf_b (h : OfOk t names) {v : Nat} (hv : v < t.ps.length) (h0 : (gs t.ns v).size ≠ 0) : ∃ b : Nat, b < names.length ∧ gs names b = gs t.ns v ∧ fdN names (gs t.ns v) = (b : Int) := by
  obtain ⟨b, hb, e⟩ := h.has v hv h0
  exact ⟨b, hb, e, by rw [← e]; exact fd_of h.nd hb⟩
theorem hit_lvS (h : OfOk t names) {k v b : Nat} (hv : v < t.ps.length) (h0 : (gs t.ns v).size ≠ 0) (hb : b < names.length) (e : fdN names (gs t.ns v) = (b : Int)) : hitB t.ps k v = true ↔ (b : Int) ∈ lvS t names k := by
  rw [mem_lvS]
  constructor
  · intro hh; exact ⟨by omega, by omega, v, hv, hh, h0, e⟩
  · rintro ⟨_, _, j, hj, hh, hj0, ej⟩
    obtain ⟨b1, _, e1, f1⟩ := leaf_b h hv h0
    obtain ⟨b2, _, e2, f2⟩ := leaf_b h hj hj0
    have : b1 = b2 := by rw [f1] at e; rw [f2] at ej; omega
    subst this
    have := LeafOk.inj (⟨h.te, hv, h0⟩ : LeafOk t v) hj hv hj0 (by rw [← e1, ← e2])
    subst this; exact hh
theorem char_one (h : OfOk t names) (h01 : ∀ b, b < names.length → gi st b = 0 ∨ gi st b = 1) (hs : osO st names.length ∈ splO t names) :
    parErr t (ownP t names st (leavesL t.ns).length) (unitL 16) = 0 ∧ scoreN t (ownP t names st (leavesL t.ns).length) (unitL 16) = 1 := by
  have hte := h.te
  obtain ⟨hp0, hp64, hnl, hok, _⟩ := treeErr_zero hte
  have hso : splOErr t names = 0 := splO_ok.2 h
  have hval : ∀ j, j < (leavesL t.ns).length → ∃ v b : Nat, gi (leavesL t.ns) j = (v : Int) ∧ v < t.ps.length ∧ (gs t.ns v).size ≠ 0 ∧ b < names.length ∧ fdN names (gs t.ns v) = (b : Int) ∧ gi (ownP t names st (leavesL t.ns).length) j = gi st b := fun j hj => by
    obtain ⟨v, hv, hvn, hv0⟩ := leaf_nat hj
    obtain ⟨b, hb, _, e⟩ := leaf_b h (show v < t.ps.length by omega) hv0
    exact ⟨v, b, hv, by omega, hv0, hb, e, by rw [ownP_gi hj, hv, Int.toNat_natCast, e, Int.toNat_natCast]⟩
  have hV : Valid t (ownP t names st (leavesL t.ns).length) (unitL 4) := ⟨hte, mat4, ownP_len _ _ _ _, by
    unfold stBad
    rw [ownP_len]
    refine any_none fun j hj => ?_
    obtain ⟨v, b, _, _, _, hb, _, e⟩ := hval j hj
    rw [e, unitL_len]
    rcases h01 b hb with e | e <;> rw [e] <;> decide⟩
  have hV16 := valid16 hV
  have h416 := score_4_16 hV
  -- the node of the split
  have hm : osO st names.length ∈ rawO t names := by
    unfold splO at hs
    rw [if_pos hso] at hs
    exact mem_ordX.1 hs
  unfold rawO at hm
  obtain ⟨hm1, hm2⟩ := List.mem_filter.1 hm
  obtain ⟨k, hk1, hk2⟩ := List.mem_map.1 hm1
  obtain ⟨hk3, hk4⟩ := List.mem_filter.1 hk1
  have hkl := List.mem_range.1 hk3
  have hk0 := of_decide_eq_true hk4
  have hsp : SplOk names.length (osO st names.length) := splErr_zero.1 (of_decide_eq_true hm2)
  have hos : ∀ b : Nat, b < names.length → ((b : Int) ∈ osO st names.length ↔ gi st b ≠ gi st 0) := fun b hb => by
    rw [mem_osO, Int.toNat_natCast]
    exact ⟨fun h => h.2.2, fun h => ⟨by omega, by omega, h⟩⟩
  have hn0 : 0 < names.length := by have := hsp.n1; omega
  have h00 := h01 0 hn0
  obtain ⟨A, B, hA, hB, hAB⟩ : ∃ A B : Int, (A = 0 ∨ A = 1) ∧ (B = 0 ∨ B = 1) ∧ ∀ v b : Nat, v < t.ps.length → (gs t.ns v).size ≠ 0 → b < names.length → fdN names (gs t.ns v) = (b : Int) → gi st b = if hitB t.ps k v then A else B := by
    by_cases hc : (lvS t names k).contains 0 = true
    · refine ⟨gi st 0, 1 - gi st 0, h00, by omega, fun v b hv hv0 hb e => ?_⟩
      have hhit := hit_lvS h (k := k) hv hv0 hb e
      have hsb := hos b hb
      rw [← hk2] at hsb
      unfold splS at hsb
      rw [if_pos hc, mem_complL] at hsb
      have hb1 := h01 b hb
      by_cases hh : hitB t.ps k v = true
      · rw [if_pos hh]
        have h2 := hhit.1 hh
        exact Classical.byContradiction fun q => (hsb.2 q).2.2 h2
      · rw [if_neg hh]
        have h2 : (b : Int) ∉ lvS t names k := fun q => hh (hhit.2 q)
        have h3 := hsb.1 ⟨by omega, by omega, h2⟩
        omega
    · refine ⟨1 - gi st 0, gi st 0, by omega, h00, fun v b hv hv0 hb e => ?_⟩
      have hhit := hit_lvS h (k := k) hv hv0 hb e
      have hsb := hos b hb
      rw [← hk2] at hsb
      unfold splS at hsb
      rw [if_neg hc] at hsb
      have hb1 := h01 b hb
      by_cases hh : hitB t.ps k v = true
      · rw [if_pos hh]
        have h3 := hsb.1 (hhit.1 hh)
        omega
      · rw [if_neg hh]
        exact Classical.byContradiction fun q => hh (hhit.2 (hsb.2 q))
  -- at most one change
  have hall : AllOk t.ps.length 4 ((List.range t.ps.length).map fun v => if hitB t.ps k v then A else B) := ⟨by simp, fun v hv => by
    have : gi ((List.range t.ps.length).map fun v => if hitB t.ps k v then A else B) v = if hitB t.ps k v then A else B := by simp [gi, hv]
    rw [this]; split <;> omega⟩
  have hgi : ∀ v, v < t.ps.length → gi ((List.range t.ps.length).map fun v => if hitB t.ps k v then A else B) v = if hitB t.ps k v then A else B := fun v hv => by simp [gi, hv]
  have hle := score_le hV (all := (List.range t.ps.length).map fun v => if hitB t.ps k v then A else B) (by rw [unitL_len]; exact hall) (fun j hj _ => by
    obtain ⟨v, b, e1, hv, hv0, hb, e2, e3⟩ := hval j hj
    rw [e1, Int.toNat_natCast, hgi v hv, e3]
    exact (hAB v b hv hv0 hb e2).symm)
  rw [costL_u hte hall] at hle
  have hle2 := sumN_mono (n := t.ps.length) (f := fun c => if 0 < c then (if gi ((List.range t.ps.length).map fun v => if hitB t.ps k v then A else B) (gi t.ps c).toNat = gi ((List.range t.ps.length).map fun v => if hitB t.ps k v then A else B) c then 0 else 1) else 0) (g := fun c => if c = k then 1 else 0) (fun c hc => by
    show (if 0 < c then _ else (0 : Int)) ≤ (if c = k then 1 else 0)
    by_cases c0 : 0 < c
    · rw [if_pos c0]
      by_cases ck : c = k
      · rw [if_pos ck]; split <;> omega
      · have hpar := pOkB_par hok hc c0
        rw [if_neg ck, hgi c hc, hgi _ (by omega), hit_par hok hc c0 ck, if_pos rfl]; exact Int.le_refl _
    · rw [if_neg c0]; split <;> omega)
  rw [sumN_one, if_pos hkl] at hle2
  -- at least one
  have hlo := fitch_lo hV
  have h2 : 2 ≤ (dd (knownL (ownP t names st (leavesL t.ns).length))).length := by
    obtain ⟨x, hx⟩ := List.exists_mem_of_length_pos (show 0 < (osO st names.length).length by have := hsp.len; omega)
    obtain ⟨x0, x1, x2⟩ := mem_osO.1 hx
    have hin : ∀ b : Nat, b < names.length → gi st b ∈ dd (knownL (ownP t names st (leavesL t.ns).length)) := fun b hb => by
      obtain ⟨v, hv, hv0, ev⟩ := of_names h hb
      obtain ⟨j, hj, ej⟩ := mem_gi (mem_leavesL.2 ⟨v, rfl, by omega, hv0⟩)
      rw [mem_dd, mem_knownL]
      have e : gi (ownP t names st (leavesL t.ns).length) j = gi st b := by
        rw [ownP_gi hj, ej, Int.toNat_natCast, ev, fd_of h.nd hb, Int.toNat_natCast]
      refine ⟨?_, by rcases h01 b hb with e | e <;> omega⟩
      rw [← e]; exact gi_in (by rw [ownP_len]; exact hj)
    have hnd : ([gi st 0, gi st x.toNat] : List Int).Nodup := by simp [List.nodup_cons, Ne.symm x2]
    have := nodup_subL hnd (q := dd (knownL (ownP t names st (leavesL t.ns).length))) (fun y hy => by
      simp only [List.mem_cons, List.not_mem_nil, or_false] at hy
      rcases hy with rfl | rfl
      · exact hin 0 hn0
      · exact hin x.toNat (by omega))
    simpa using this
  refine ⟨?_, by rw [h416]; omega⟩
  unfold parErr
  rw [if_neg (by simp [hte]), if_neg (by simp [matN16])]
  unfold knownErr
  rw [if_neg (by rw [ownP_len]; simp), hV16.good]; rfl
end
end Go.Proofs.YtcbmbhghmfehpaaGreat
namespace Go.Proofs.YtcbmbhghmfehpaaGreat
def allErr (n : Int) (l : List (List Int)) : Int := if 64 < l.length then 4 else if n < 1 ∨ 32 < n then 2 else firstNZ (fun k => splErr n (gl l k)) l.length
end Go.Proofs.YtcbmbhghmfehpaaGreat
namespace Go.Proofs.YtcbmbhghmfehpaaGreat
theorem os_err0 {st : List Int} (h : st.length ≤ 32) (hb : ∀ i, i < st.length → -1 ≤ gi st i ∧ gi st i < 16) : osErr st = 0 := by
  unfold osErr
  rw [if_neg (by omega)]
  have : (List.range st.length).any (fun j => badS (gi st j)) = false := any_none fun j hj => by
    have := hb j hj
    unfold badS; simp; omega
  rw [this]; rfl
theorem osO_spl {st : List Int} (h : osErr st = 0) (ho : OsOk st) : SplOk (st.length : Int) (osO st st.length) := by
  obtain ⟨h32, _⟩ := os_ge h
  refine ⟨⟨by have := ho.left; omega, by omega⟩, memK_ok _ (by omega), fun x hx => ?_, ⟨ho.many, by have := ho.left; omega⟩⟩
  obtain ⟨x0, x1, x2⟩ := mem_osO.1 hx
  refine ⟨?_, x1⟩
  by_cases e : x = 0
  · subst e; exact absurd rfl x2
  · omega
def c4 (a b : List Int) (i j : Bool) : Nat → Nat
  | 0 => 0
  | n + 1 => c4 a b i j n + if (a.contains (n : Int) == i && b.contains (n : Int) == j) then 1 else 0
end Go.Proofs.YtcbmbhghmfehpaaGreat
namespace Go.Proofs.YtcbmbhghmfehpaaGreat
theorem two_le {L : List Int} {y z : Int} (h1 : y ∈ L) (h2 : z ∈ L) (hne : y ≠ z) : 2 ≤ L.length := by
  match L, h1, h2 with
  | [a], h1, h2 => exact absurd ((List.mem_singleton.1 h1).trans (List.mem_singleton.1 h2).symm) hne
  | _ :: _ :: _, _, _ => simp
def LamR (a b : List Int) : Prop := ((∀ x ∈ a, x ∉ b) ∨ ∀ x ∈ a, x ∈ b) ∧ ¬ ∀ x, x ∈ a ↔ x ∈ b
theorem lam_len : ∀ (F : List (List Int)) (U : List Int), U ≠ [] → U.Nodup → (∀ s ∈ F, s.Nodup ∧ 2 ≤ s.length ∧ ∀ x ∈ s, x ∈ U) → F.Pairwise LamR → F.length + 1 ≤ U.length
  | [], U, hU, _, _, _ => by
    have := List.length_pos_iff.2 hU
    show 0 + 1 ≤ U.length
    omega
  | S :: F, U, hU, hN, hF, hP => by
    obtain ⟨hSn, hS2, hSU⟩ := hF S (by simp)
    obtain ⟨x, y, r, rfl⟩ : ∃ x y r, S = x :: y :: r := by
      match S, hS2 with
      | a :: b :: r, _ => exact ⟨a, b, r, rfl⟩
    have hxy : x ≠ y := fun e => (List.nodup_cons.1 hSn).1 (by rw [e]; simp)
    have hxU := hSU x (by simp)
    have hyU := hSU y (by simp)
    rw [List.pairwise_cons] at hP
    obtain ⟨hP1, hP2⟩ := hP
    have hlen := List.length_erase_of_mem hxU
    have hpos := List.length_pos_of_mem hxU
    have hin : ∀ T ∈ F, (x ∈ T ↔ y ∈ T) := fun T hT => by
      rcases (hP1 T hT).1 with h | h
      · exact ⟨fun e => absurd e (h x (by simp)), fun e => absurd e (h y (by simp))⟩
      · exact ⟨fun _ => h y (by simp), fun _ => h x (by simp)⟩
    have ih := lam_len (F.map (·.erase x)) (U.erase x) (fun e => by
        have : y ∈ U.erase x := (List.Nodup.mem_erase_iff hN).2 ⟨fun e => hxy e.symm, hyU⟩
        rw [e] at this; cases this) (hN.erase x) (fun s hs => by
        obtain ⟨T, hT, rfl⟩ := List.mem_map.1 hs
        obtain ⟨hTn, hT2, hTU⟩ := hF T (List.mem_cons_of_mem _ hT)
        refine ⟨hTn.erase x, ?_, fun z hz => ?_⟩
        · rcases (hP1 T hT).1 with h | h
          · rw [List.erase_of_not_mem (h x (by simp))]; exact hT2
          · obtain ⟨z, hz1, hz2⟩ : ∃ z, z ∈ T ∧ z ∉ x :: y :: r := by
              refine Classical.byContradiction fun hno => (hP1 T hT).2 fun z => ⟨h z, fun hz => ?_⟩
              exact Classical.byContradiction fun hz2 => hno ⟨z, hz, hz2⟩
            refine two_le (y := y) (z := z) ((List.Nodup.mem_erase_iff hTn).2 ⟨fun e => hxy e.symm, h y (by simp)⟩) ((List.Nodup.mem_erase_iff hTn).2 ⟨fun e => hz2 (by rw [e]; simp), hz1⟩) (fun e => hz2 (by rw [← e]; simp))
        · obtain ⟨h1, h2⟩ := (List.Nodup.mem_erase_iff hTn).1 hz
          exact (List.Nodup.mem_erase_iff hN).2 ⟨h1, hTU z h2⟩) (by
        rw [List.pairwise_map]
        refine hP2.imp_of_mem fun {a b} ha hb hab => ?_
        have han := (hF a (List.mem_cons_of_mem _ ha)).1
        have hbn := (hF b (List.mem_cons_of_mem _ hb)).1
        have ma : ∀ z, z ∈ a.erase x ↔ z ≠ x ∧ z ∈ a := fun z => List.Nodup.mem_erase_iff han
        have mb : ∀ z, z ∈ b.erase x ↔ z ≠ x ∧ z ∈ b := fun z => List.Nodup.mem_erase_iff hbn
        refine ⟨?_, fun hall => hab.2 fun z => ?_⟩
        · rcases hab.1 with h | h
          · exact .inl fun z hz hz2 => h z ((ma z).1 hz).2 ((mb z).1 hz2).2
          · exact .inr fun z hz => (mb z).2 ⟨((ma z).1 hz).1, h z ((ma z).1 hz).2⟩
        · have hall2 : ∀ z, z ≠ x → (z ∈ a ↔ z ∈ b) := fun z hz => by
            have h := hall z
            rw [ma, mb] at h
            exact ⟨fun e => (h.1 ⟨hz, e⟩).2, fun e => (h.2 ⟨hz, e⟩).2⟩
          by_cases e : z = x
          · rw [e, hin a ha, hin b hb]; exact hall2 y fun e => hxy e.symm
          · exact hall2 z e)
    rw [List.length_map] at ih
    simp only [List.length_cons]
    omega
termination_by F => F.length
decreasing_by simp
theorem own_small {names : List ByteArray} {l : List (List Int)} (h : BldOk names l) (h3 : 3 ≤ names.length) : 3 + (ownQ l).length + (names.length - 1) ≤ 64 := by
  have hr := rest_len (n := names.length) (by omega)
  have hle := h.le
  have hnd : (complL names.length [0]).Nodup := ((allI_asc _).filter _).imp fun h e => by omega
  have key := lam_len (ownQ l).reverse (complL names.length [0]) (fun e => by rw [e] at hr; simp at hr; omega) hnd (fun s hs => by
    have hs := mem_ownO.1 (List.mem_reverse.1 hs)
    have ho := h.spl s hs
    exact ⟨ho.set.asc.imp fun h e => by omega, ho.len.1, fun x hx => mem_rest.2 (ho.bd x hx)⟩) (by
    rw [List.pairwise_reverse, List.pairwise_iff_getElem]
    intro i k hi hk hik
    have ei : gl (ownQ l) i = (ownQ l)[i] := by simp [gl, hi]
    have ek : gl (ownQ l) k = (ownQ l)[k] := by simp [gl, hk]
    rw [← ei, ← ek]
    refine ⟨?_, fun hall => ?_⟩
    · by_cases hc : ∃ x, x ∈ gl (ownQ l) k ∧ x ∈ gl (ownQ l) i
      · obtain ⟨x, h1, h2⟩ := hc
        exact .inr (h.down hik hk h2 h1)
      · exact .inl fun x h1 h2 => hc ⟨x, h1, h2⟩
    · have := h.up (i := k) (k := i) hk hi (by omega) fun x hx => (hall x).2 hx
      omega)
  rw [List.length_reverse] at key
  omega
end Go.Proofs.YtcbmbhghmfehpaaGreat
