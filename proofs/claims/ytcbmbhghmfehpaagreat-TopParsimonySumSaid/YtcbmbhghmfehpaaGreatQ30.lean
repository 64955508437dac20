/- Plain: unit costs. Plain laws for ParsimonyFitch: the cost as a sum over edges, different states counted, unit costs. Plain laws for ParsimonyFitch: with unit costs the score lies between the different known states and the known leaves, and does not depend on how many states there may be. Maps whose keys are numbers. -/
import Derived.Test.YtcbmbhghmfehpaaGreatQ1
import Derived.Test.YtcbmbhghmfehpaaGreatQ11
namespace Go.Proofs.YtcbmbhghmfehpaaGreat
def unitAt (a b : Nat) : Int := if a = b then 0 else 1
def unitRow (n a : Nat) : List Int := (List.range n).map (unitAt a)
def unitL (n : Nat) : List (List Int) := (List.range n).map (unitRow n)
theorem unitRow_len (n a : Nat) : (unitRow n a).length = n := by simp [unitRow]
theorem unitL_len (n : Nat) : (unitL n).length = n := by simp [unitL]
theorem gi_unitRow {n a b : Nat} (h : b < n) : gi (unitRow n a) b = unitAt a b := by simp [gi, unitRow, h]
theorem gl_unitL {n a : Nat} (h : a < n) : gl (unitL n) a = unitRow n a := by simp [gl, unitL, h]
end Go.Proofs.YtcbmbhghmfehpaaGreat
namespace Go.Proofs.YtcbmbhghmfehpaaGreat
theorem sumN_swap (f : Nat → Nat → Int) (m : Nat) : ∀ n, sumN (fun a => sumN (fun b => f a b) m) n = sumN (fun b => sumN (fun a => f a b) n) m
  | 0 => by simp only [sumN]; exact (sumN_zero m).symm
  | n + 1 => by
    rw [sumN_succ, sumN_swap f m n, ← sumN_add]
    rfl
theorem costL_edges {t : Tre} (hok : pOkB t.ps = true) (cs : List (List Int)) (all : List Int) : costL t cs all = sumN (fun c => if 0 < c then edgeC cs all (gi t.ps c).toNat c else 0) t.ps.length := by
  unfold costL costK
  rw [sumN_congr (fun k _ => nodeC_sum t cs all k), sumN_swap]
  refine sumN_congr fun c hc => ?_
  obtain ⟨h1, h2, h3⟩ := par_ok hok hc
  by_cases h0 : 0 < c
  · rw [if_pos h0]
    have hp := h2 h0
    obtain ⟨p, hpp⟩ := Int.eq_ofNat_of_zero_le hp
    have h4 : ∀ k, k < t.ps.length → (if k < c ∧ gi t.ps c = (k : Int) then edgeC cs all k c else 0) = if k = p then edgeC cs all p c else 0 := fun k _ => by
      by_cases e : k = p
      · subst e; rw [if_pos ⟨by omega, hpp⟩, if_pos rfl]
      · rw [if_neg (by omega), if_neg e]
    rw [sumN_congr h4, sumN_one, if_pos (by omega), hpp]; rfl
  · rw [if_neg h0]
    have h4 : ∀ k, k < t.ps.length → (if k < c ∧ gi t.ps c = (k : Int) then edgeC cs all k c else 0) = 0 := fun k _ => if_neg (by omega)
    rw [sumN_congr h4, sumN_zero]
def dd : List Int → List Int
  | [] => []
  | x :: l => if x ∈ dd l then dd l else x :: dd l
theorem mem_dd {x : Int} : ∀ {l : List Int}, x ∈ dd l ↔ x ∈ l
  | [] => Iff.rfl
  | y :: l => by
    unfold dd
    split
    · rename_i h
      rw [mem_dd (l := l), List.mem_cons]
      exact ⟨.inr, fun h2 => h2.elim (fun e => by rw [e]; exact mem_dd.1 h) id⟩
    · rw [List.mem_cons, List.mem_cons, mem_dd (l := l)]
theorem dd_nodup : ∀ l : List Int, (dd l).Nodup
  | [] => List.nodup_nil
  | y :: l => by
    unfold dd
    split
    · exact dd_nodup l
    · rename_i h; exact List.nodup_cons.2 ⟨h, dd_nodup l⟩
theorem dd_le {l m : List Int} (h : ∀ x ∈ l, x ∈ m) : (dd l).length ≤ (dd m).length :=
  (dd_nodup l).length_le_of_subset fun x hx => mem_dd.2 (h x (mem_dd.1 hx))
theorem dd_cons_le (x : Int) (l : List Int) : ((dd (x :: l)).length : Int) ≤ (dd l).length + if x ∈ l then 0 else 1 := by
  show (((if x ∈ dd l then dd l else x :: dd l) : List Int).length : Int) ≤ _
  by_cases h : x ∈ dd l
  · rw [if_pos h, if_pos (mem_dd.1 h)]; omega
  · rw [if_neg h, if_neg (fun h2 => h (mem_dd.2 h2))]; simp
def backL (a : Nat → Int) : Nat → List Int
  | 0 => []
  | k + 1 => a k :: backL a k
theorem mem_backL {a : Nat → Int} {x : Int} : ∀ {k : Nat}, x ∈ backL a k ↔ ∃ j, j < k ∧ a j = x
  | 0 => ⟨fun h => absurd h (List.not_mem_nil), fun ⟨j, h, _⟩ => absurd h (Nat.not_lt_zero _)⟩
  | k + 1 => by
    show x ∈ a k :: backL a k ↔ _
    rw [List.mem_cons, mem_backL]
    constructor
    · rintro (e | ⟨j, hj, e⟩)
      · exact ⟨k, Nat.lt_succ_self k, e.symm⟩
      · exact ⟨j, by omega, e⟩
    · rintro ⟨j, hj, e⟩
      by_cases h : j = k
      · subst h; exact .inl e.symm
      · exact .inr ⟨j, by omega, e⟩
theorem dd_edges {p : Nat → Nat} (hp : ∀ c, 0 < c → p c < c) (a : Nat → Int) : ∀ {k : Nat}, 0 < k → ((dd (backL a k)).length : Int) ≤ 1 + sumN (fun c => if 0 < c then (if a (p c) = a c then 0 else 1) else 0) k := by
  intro k
  induction k with
  | zero => intro h; exact absurd h (Nat.lt_irrefl 0)
  | succ k ih =>
    intro _
    show ((dd (a k :: backL a k)).length : Int) ≤ _
    have h1 := dd_cons_le (a k) (backL a k)
    rw [sumN_succ]
    by_cases h0 : 0 < k
    · have h2 := ih h0
      rw [if_pos h0]
      by_cases e : a (p k) = a k
      · rw [if_pos (mem_backL.2 ⟨p k, hp k h0, e⟩)] at h1
        rw [if_pos e]; omega
      · rw [if_neg e]
        have : (if a k ∈ backL a k then (0 : Int) else 1) ≤ 1 := by split <;> omega
        omega
    · have : k = 0 := by omega
      subst this
      simp [dd, backL, sumN]
theorem dd_edges' {p : Nat → Nat} {a : Nat → Int} {n : Nat} (hp : ∀ c, c < n → 0 < c → p c < c) {k : Nat} (h0 : 0 < k) (hk : k ≤ n) : ((dd (backL a k)).length : Int) ≤ 1 + sumN (fun c => if 0 < c then (if a (p c) = a c then 0 else 1) else 0) k := by
  have h := dd_edges (p := fun c => if c < n then p c else 0) (fun c hc => by
    show (if c < n then p c else 0) < c
    split
    · exact hp c ‹_› hc
    · exact hc) a h0
  rwa [sumN_congr (g := fun c => if 0 < c then (if a (p c) = a c then 0 else 1) else 0) (fun c hc => by show (if 0 < c then (if a (if c < n then p c else 0) = a c then (0 : Int) else 1) else 0) = _; rw [if_pos (show c < n by omega)])] at h
theorem cost_unit {n a b : Nat} (ha : a < n) (hb : b < n) : costF (unitL n) a b = if a = b then 0 else 1 := by
  unfold costF; rw [gl_unitL ha, gi_unitRow hb]; rfl
end Go.Proofs.YtcbmbhghmfehpaaGreat
namespace Go.Proofs.YtcbmbhghmfehpaaGreat
theorem mat4 : matErr (unitL 4) = 0 := by decide +kernel
theorem matN16 : matErr (unitL 16) = 0 := by decide +kernel
theorem st_bd {st : List Int} {m : Int} (h : stBad st (-1) m = false) {k : Nat} (hk : k < st.length) : -1 ≤ gi st k ∧ gi st k < m := by
  have := any_false h hk
  simp at this; omega
theorem mem_gi {l : List Int} {x : Int} (h : x ∈ l) : ∃ k, k < l.length ∧ gi l k = x := by
  obtain ⟨k, hk, e⟩ := List.mem_iff_getElem.1 h
  exact ⟨k, hk, by simp [gi, hk, e]⟩
section
variable {t : Tre} {st : List Int}
theorem valid16 (h : Valid t st (unitL 4)) : Valid t st (unitL 16) := by
  refine ⟨h.tree, matN16, h.len, any_none fun k hk => ?_⟩
  have := st_bd h.good hk
  rw [unitL_len] at this ⊢
  simp; omega
theorem edge_u {n : Nat} {all : List Int} {N : Nat} (ha : AllOk N n all) {p c : Nat} (hp : p < N) (hc : c < N) : edgeC (unitL n) all p c = if gi all p = gi all c then 0 else 1 := by
  obtain ⟨a1, a2⟩ := ha.2 p hp
  obtain ⟨b1, b2⟩ := ha.2 c hc
  unfold edgeC
  rw [cost_unit (by omega) (by omega)]
  by_cases e : gi all p = gi all c
  · rw [if_pos e, if_pos (by rw [e])]
  · rw [if_neg e, if_neg (by omega)]
theorem costL_u (ht : treeErr t = 0) {n : Nat} {all : List Int} (ha : AllOk t.ps.length n all) : costL t (unitL n) all = sumN (fun c => if 0 < c then (if gi all (gi t.ps c).toNat = gi all c then 0 else 1) else 0) t.ps.length := by
  have hok := (treeErr_zero ht).2.2.2.1
  rw [costL_edges hok]
  refine sumN_congr fun c hc => ?_
  by_cases h0 : 0 < c
  · obtain ⟨h1, h2, _⟩ := par_ok hok hc
    have := h2 h0
    rw [if_pos h0, if_pos h0, edge_u ha (by omega) hc]
  · rw [if_neg h0, if_neg h0]
theorem asg_all {cs : List (List Int)} (h : Valid t st cs) : AllOk t.ps.length cs.length (asgL t st cs) :=
  ⟨asgL_len t st cs, fun k hk => by obtain ⟨o, e, ho⟩ := asgK_ok h (k := t.ps.length) (Nat.le_refl _) hk; unfold asgL; rw [e]; omega⟩
theorem score_4_16 (h : Valid t st (unitL 4)) : scoreN t st (unitL 16) = scoreN t st (unitL 4) := by
  have h16 := valid16 h
  have ht := h.tree
  have e4 := asg_cost h
  have e16 := asg_cost h16
  have a4 := asg_all h
  have a16 := asg_all h16
  rw [unitL_len] at a4 a16
  have f16 := asg_fits h16
  have f4 := asg_fits h
  have a4' : AllOk t.ps.length 16 (asgL t st (unitL 4)) := ⟨a4.1, fun k hk => by have := a4.2 k hk; omega⟩
  have l1 := score_le h16 (all := asgL t st (unitL 4)) (by rw [unitL_len]; exact a4') f4
  rw [costL_u ht a4', ← costL_u ht a4, e4] at l1
  generalize hA : asgL t st (unitL 16) = A at *
  have hgi : ∀ k, k < t.ps.length → gi (A.map fun x => if x < 4 then x else 0) k = if gi A k < 4 then gi A k else 0 := fun k hk => by
    have : k < A.length := by rw [a16.1]; exact hk
    simp [gi, this]
  have b4 : AllOk t.ps.length 4 (A.map fun x => if x < 4 then x else 0) := ⟨by rw [List.length_map]; exact a16.1, fun k hk => by
    have := a16.2 k hk
    rw [hgi k hk]; split <;> omega⟩
  have l2 := score_le h (all := A.map fun x => if x < 4 then x else 0) (by rw [unitL_len]; exact b4) (fun i hi h0 => by
    obtain ⟨k, hk, hkn, _⟩ := leaf_nat hi
    rw [(treeErr_zero ht).2.2.1] at hkn
    have := f16 i hi h0
    have hb := st_bd h.good (k := i) (by rw [h.len]; exact hi)
    rw [unitL_len] at hb
    rw [hk, Int.toNat_natCast] at this ⊢
    rw [hgi k hkn, this, if_pos (by omega)])
  rw [costL_u ht b4] at l2
  rw [costL_u ht a16] at e16
  have l3 := sumN_mono (n := t.ps.length) (f := fun c => if 0 < c then (if gi (A.map fun x => if x < 4 then x else 0) (gi t.ps c).toNat = gi (A.map fun x => if x < 4 then x else 0) c then 0 else 1) else 0) (g := fun c => if 0 < c then (if gi A (gi t.ps c).toNat = gi A c then 0 else 1) else 0) (fun c hc => by
    by_cases h0 : 0 < c
    · obtain ⟨h1, h2, _⟩ := par_ok (treeErr_zero ht).2.2.2.1 hc
      have := h2 h0
      show (if 0 < c then _ else _) ≤ (if 0 < c then _ else _)
      rw [if_pos h0, if_pos h0]
      by_cases e : gi A (gi t.ps c).toNat = gi A c
      · rw [if_pos e, hgi _ (by omega), hgi c hc, e, if_pos rfl]; exact Int.le_refl _
      · rw [if_neg e]; split <;> omega
    · show (if 0 < c then _ else _) ≤ (if 0 < c then _ else _)
      rw [if_neg h0, if_neg h0]; exact Int.le_refl _)
  omega
def knownL (st : List Int) : List Int := st.filter fun s => decide (0 ≤ s)
theorem mem_knownL {x : Int} : x ∈ knownL st ↔ x ∈ st ∧ 0 ≤ x := by simp [knownL]
theorem fitch_lo (h : Valid t st (unitL 4)) : ((dd (knownL st)).length : Int) - 1 ≤ scoreN t st (unitL 4) := by
  have ht := h.tree
  obtain ⟨hp0, _, _, hok, _⟩ := treeErr_zero ht
  have a4 := asg_all h
  rw [unitL_len] at a4
  rw [← asg_cost h, costL_u ht a4]
  have hb : (dd (knownL st)).length ≤ (dd (backL (gi (asgL t st (unitL 4))) t.ps.length)).length := dd_le fun x hx => by
    obtain ⟨h1, h2⟩ := mem_knownL.1 hx
    obtain ⟨i, hi, e⟩ := mem_gi h1
    rw [h.len] at hi
    obtain ⟨k, hk, hkn, _⟩ := leaf_nat hi
    have := asg_fits h i hi (by omega)
    rw [hk, Int.toNat_natCast] at this
    exact mem_backL.2 ⟨k, by rw [← (treeErr_zero ht).2.2.1]; exact hkn, by rw [this, e]⟩
  have hd := dd_edges' (p := fun c => (gi t.ps c).toNat) (a := gi (asgL t st (unitL 4))) (n := t.ps.length) (fun c hc h0 => by
    obtain ⟨h1, h2, _⟩ := par_ok hok hc
    have := h2 h0
    show (gi t.ps c).toNat < c
    omega) hp0 (Nat.le_refl _)
  omega
end
end Go.Proofs.YtcbmbhghmfehpaaGreat
namespace Go.Proofs.YtcbmbhghmfehpaaGreat
open Go.RowKit Go.Deep
def putJ (l : List (Int × Value)) (k : Int) (v : Value) : List (Int × Value) := if (l.lookup k).isNone then l ++ [(k, v)] else l.map fun x => if x.1 = k then (k, v) else x
def IMap (w : World) (b : Nat) (l : List (Int × Value)) : Prop := ∃ es clock, w.heap[b]? = some (.map es clock) ∧ es.toList.map (fun x => (x.key, x.val)) = l.map (fun x => (Value.int .i64 x.1, x.2))
def UniqI (l : List (Int × Value)) : Prop := (l.map (·.1)).Nodup
theorem ib_beq (a b : Int) : (a == b) = decide (a = b) := by by_cases h : a = b <;> simp [h]
theorem ib_self (a : Int) : (a == a) = true := by rw [ib_beq]; simp
theorem ib_ne {a b : Int} (h : ¬ a = b) : (a == b) = false := by rw [ib_beq]; simpa using h
section
variable {P : Program} {w : World}
theorem findNow_i (k : Int) : ∀ (es : List MapEntry) (l : List (Int × Value)) (i : Nat),
    es.map (fun x => (x.key, x.val)) = l.map (fun x => (Value.int .i64 x.1, x.2)) →
      (l.lookup k = none ∧ Instr.findNow (.int .i64) (.int .i64 k) es i = some none) ∨ ∃ j v, l.lookup k = some v ∧ (l[j]?).map (·.1) = some k ∧ Instr.findNow (.int .i64) (.int .i64 k) es i = some (some (i + j, v)) := by
  intro es
  induction es with
  | nil =>
    intro l i hl
    cases l with
    | nil => exact .inl ⟨rfl, rfl⟩
    | cons => cases hl
  | cons x es ih =>
    intro l i hl
    cases l with
    | nil => cases hl
    | cons y l =>
      simp only [List.map_cons, List.cons.injEq, Prod.mk.injEq] at hl
      obtain ⟨⟨h1, h2⟩, h3⟩ := hl
      obtain ⟨y1, y2⟩ := y
      have h1 : x.key = .int .i64 y1 := h1
      have h2 : x.val = y2 := h2
      by_cases h : k = y1
      · subst h
        refine .inr ⟨0, y2, by rw [List.lookup_cons, ib_self], rfl, ?_⟩
        simp [Instr.findNow, Instr.sameNow, h1, h2]
      · have hb : (k == y1) = false := ib_ne h
        rcases ih l (i + 1) h3 with ⟨h4, h5⟩ | ⟨j, v, h4, h5, h6⟩
        · refine .inl ⟨by rw [List.lookup_cons, hb]; exact h4, ?_⟩
          simp [Instr.findNow, Instr.sameNow, h1, hb, h5]
        · refine .inr ⟨j + 1, v, by rw [List.lookup_cons, hb]; exact h4, by simpa using h5, ?_⟩
          simp [Instr.findNow, Instr.sameNow, h1, hb, h6]; omega
theorem run_findI {t : TypeId} (ht : P.underlying t = some (.int .i64)) (k : Int) (es : List MapEntry) (l : List (Int × Value)) (hl : es.map (fun x => (x.key, x.val)) = l.map (fun x => (Value.int .i64 x.1, x.2))) :
    (l.lookup k = none ∧ (Instr.findKey t (.int .i64 k) es).run P w = .ok none w) ∨ ∃ j v, l.lookup k = some v ∧ (l[j]?).map (·.1) = some k ∧ (Instr.findKey t (.int .i64 k) es).run P w = .ok (some (j, v)) w := by
  have hu := run_underlying (w := w) ht
  rcases findNow_i k es l 0 hl with ⟨h1, h2⟩ | ⟨j, v, h1, h2, h3⟩
  · exact .inl ⟨h1, by simp [Instr.findKey, hu, h2]⟩
  · exact .inr ⟨j, v, h1, h2, by simp [Instr.findKey, hu, h3]⟩
theorem run_checkI {t : TypeId} (ht : P.underlying t = some (.int .i64)) (em : Bool) (k : Int) : (Instr.checkKey em 10000 t (.int .i64 k)).run P w = .ok () w := by
  have hu := run_underlying (w := w) ht
  show (Instr.checkKey em (9999 + 1) t (.int .i64 k)).run P w = _
  unfold Instr.checkKey
  simp [hu]
theorem lookupI_none {l : List (Int × Value)} {k : Int} : l.lookup k = none ↔ k ∉ l.map (·.1) := by
  induction l with
  | nil => simp
  | cons y l ih =>
    obtain ⟨y1, y2⟩ := y
    rw [List.lookup_cons]
    by_cases h : k = y1
    · subst h; simp
    · have hb : (k == y1) = false := ib_ne h
      rw [hb]; simp only [List.map_cons, List.mem_cons, not_or]
      exact ⟨fun h2 => ⟨h, ih.1 h2⟩, fun h2 => ih.2 h2.2⟩
theorem putJ_keys (l : List (Int × Value)) (k : Int) (v : Value) : (putJ l k v).map (·.1) = if (l.lookup k).isNone then l.map (·.1) ++ [k] else l.map (·.1) := by
  unfold putJ
  split
  · simp
  · rw [List.map_map]
    refine List.map_congr_left fun x _ => ?_
    show (if x.1 = k then (k, v) else x).1 = x.1
    split
    · rename_i h; exact h.symm
    · rfl
theorem putJ_uniq {l : List (Int × Value)} (h : UniqI l) (k : Int) (v : Value) : UniqI (putJ l k v) := by
  unfold UniqI
  rw [putJ_keys]
  split
  · rename_i h2
    have h3 : k ∉ l.map (·.1) := lookupI_none.1 (by simpa using h2)
    rw [List.nodup_append]
    refine ⟨h, by simp, fun a ha b hb => ?_⟩
    have : b = k := by simpa using hb
    subst this
    exact fun e => h3 (by rw [← e]; exact ha)
  · exact h
theorem modI_uniq {l : List (Int × Value)} (h : UniqI l) {k : Int} (v : Value) {j : Nat} (hj : (l[j]?).map (·.1) = some k) : (l.map fun x => if x.1 = k then (k, v) else x) = l.set j (k, v) := by
  apply List.ext_getElem?
  intro m
  have hjl : j < l.length := by
    cases hlj : l[j]? with
    | none => rw [hlj] at hj; cases hj
    | some y => exact (List.getElem?_eq_some_iff.1 hlj).1
  rw [List.getElem?_map, List.getElem?_set]
  by_cases e : j = m
  · subst e
    rw [if_pos rfl, if_pos hjl]
    rw [List.getElem?_eq_getElem hjl] at hj ⊢
    have h3 : (l[j]).1 = k := by simpa using hj
    simp [h3]
  · rw [if_neg e]
    cases hm : l[m]? with
    | none => rfl
    | some y =>
      have hml := (List.getElem?_eq_some_iff.1 hm).1
      have hne : y.1 ≠ k := fun h4 => by
        have h5 : (l.map (·.1))[m]? = (l.map (·.1))[j]? := by rw [List.getElem?_map, List.getElem?_map, hm, hj]; simp [h4]
        have h6 : m < (l.map (·.1)).length := by simpa using hml
        have h7 : j < (l.map (·.1)).length := by simpa using hjl
        rw [List.getElem?_eq_getElem h6, List.getElem?_eq_getElem h7] at h5
        injection h5 with h5
        exact e ((List.getElem_inj h).1 h5).symm
      simp [hne]
theorem IMap.made (w : World) : IMap (w.alloc (.map #[] 0)) w.heap.size [] := ⟨#[], 0, (MapKept.heap_alloc w _).1, rfl⟩
theorem IMap.same {w' : World} {b : Nat} {l : List (Int × Value)} (h : IMap w b l) (hb : w'.heap[b]? = w.heap[b]?) : IMap w' b l := by
  obtain ⟨es, clock, h1, h2⟩ := h
  exact ⟨es, clock, hb.trans h1, h2⟩
theorem IMap.lt {b : Nat} {l : List (Int × Value)} (h : IMap w b l) : b < w.heap.size := by
  obtain ⟨es, clock, h1, _⟩ := h
  exact (Array.getElem?_eq_some_iff.1 h1).1
theorem run_iset {mt t el : TypeId} (hm : P.underlying mt = some (.map t el)) (ht : P.underlying t = some (.int .i64)) {b : Nat} {l : List (Int × Value)} (h : IMap w b l) (hq : UniqI l) (k : Int) (v : Value) :
    ∃ w', (Instr.mapUpdate mt (.map (some b)) (.int .i64 k) v).run P w = .ok () w' ∧ IMap w' b (putJ l k v) ∧ w'.heap.size = w.heap.size ∧ w'.os = w.os ∧ w'.tape = w.tape ∧ w'.output = w.output ∧ ∀ j, j ≠ b → w'.heap[j]? = w.heap[j]? := by
  obtain ⟨es, clock, hb, hl⟩ := h
  have hu := run_underlying (w := w) hm
  have hg := MapKept.run_getObj_map (P := P) hb
  have hbl := (Array.getElem?_eq_some_iff.1 hb).1
  rcases run_findI (w := w) ht k es.toList l hl with ⟨h1, h2⟩ | ⟨j, v', h1, h5, h2⟩
  · have hs := MapKept.run_setObj_map (P := P) (.map (es.push { key := .int .i64 k, val := v, born := clock }) (clock + 1)) hb
    refine ⟨{ w with heap := w.heap.setIfInBounds b (.map (es.push { key := .int .i64 k, val := v, born := clock }) (clock + 1)) }, by simp [Instr.mapUpdate, hu, hg, run_checkI ht, h2, hs], ⟨es.push { key := .int .i64 k, val := v, born := clock }, clock + 1, by simp [hbl], ?_⟩, by simp, rfl, rfl, rfl, fun j hj => by simp [Ne.symm hj]⟩
    unfold putJ; rw [h1]; simp [hl]
  · have hkey : ((es[j]?).map (·.key)) = some (.int .i64 k) := by
      have h8 := congrArg (fun q => (q[j]?).map (·.1)) hl
      simp only [List.getElem?_map, Option.map_map] at h8
      have h9 : (l[j]?).map (fun x => Value.int .i64 x.1) = some (.int .i64 k) := by
        cases hlj : l[j]? with
        | none => rw [hlj] at h5; cases h5
        | some y => rw [hlj] at h5; simp at h5; simp [h5]
      have h10 : (es.toList[j]?).map (·.key) = (l[j]?).map (fun x => Value.int .i64 x.1) := h8
      rw [← Array.getElem?_toList, h10, h9]
    have hst : (Instr.keyThatStays (((es[j]?).map (·.key)).getD (.int .i64 k)) (.int .i64 k)).run P w = .ok (.int .i64 k) w := by
      rw [hkey]
      have h0 : Instr.sameBits 10000 (.int .i64 k) (.int .i64 k) = true := by simp [Instr.sameBits]
      show (Instr.keyThatStays (.int .i64 k) (.int .i64 k)).run P w = _
      unfold Instr.keyThatStays
      rw [if_pos h0]; rfl
    have hs := MapKept.run_setObj_map (P := P) (.map (es.modify j fun e => { e with key := .int .i64 k, val := v }) clock) hb
    refine ⟨{ w with heap := w.heap.setIfInBounds b (.map (es.modify j fun e => { e with key := .int .i64 k, val := v }) clock) }, by simp [Instr.mapUpdate, hu, hg, run_checkI ht, h2, hst, hs], ⟨es.modify j fun e => { e with key := .int .i64 k, val := v }, clock, by simp [hbl], ?_⟩, by simp, rfl, rfl, rfl, fun m hm => by simp [Ne.symm hm]⟩
    have hpl : putJ l k v = l.set j (k, v) := by
      unfold putJ; rw [h1]
      exact modI_uniq hq v h5
    rw [hpl]
    apply List.ext_getElem?
    intro m
    have h8 := congrArg (fun q => q[m]?) hl
    simp only [List.getElem?_map] at h8
    rw [List.getElem?_map, List.getElem?_map, Array.getElem?_toList, Array.getElem?_modify, List.getElem?_set]
    have hjl : j < l.length := by
      cases hlj : l[j]? with
      | none => rw [hlj] at h5; cases h5
      | some y => exact (List.getElem?_eq_some_iff.1 hlj).1
    have hje : j < es.size := by have := congrArg List.length hl; simp at this; omega
    by_cases e : j = m
    · subst e
      rw [if_pos rfl, if_pos rfl, if_pos hjl, Array.getElem?_eq_getElem hje]
      rfl
    · rw [if_neg e, if_neg e, ← Array.getElem?_toList]; exact h8
theorem run_ilook {mt t el : TypeId} (hm : P.underlying mt = some (.map t el)) (ht : P.underlying t = some (.int .i64)) {z : Value} (hz : (zeroValue el).run P w = .ok z w) {b : Nat} {l : List (Int × Value)} (h : IMap w b l) (k : Int) :
    (Instr.lookup mt (.map (some b)) (.int .i64 k) false).run P w = .ok ((l.lookup k).getD z) w := by
  obtain ⟨es, clock, hb, hl⟩ := h
  have hu := run_underlying (w := w) hm
  have hg := MapKept.run_getObj_map (P := P) hb
  rcases run_findI (w := w) ht k es.toList l hl with ⟨h1, h2⟩ | ⟨j, v', h1, _, h2⟩
  · simp [Instr.lookup, hu, hg, run_checkI ht, h2, hz, h1]
  · simp [Instr.lookup, hu, hg, run_checkI ht, h2, h1]
end
theorem lookup_putJ {l : List (Int × Value)} {k j : Int} {v : Value} : (putJ l k v).lookup j = if j = k then some v else l.lookup j := by
  unfold putJ
  split
  · rename_i h
    have h0 : l.lookup k = none := by simpa using h
    rw [List.lookup_append]
    by_cases e : j = k
    · subst e; rw [if_pos rfl, h0]; simp [List.lookup]
    · rw [if_neg e]
      have : List.lookup j [(k, v)] = none := by simp [List.lookup, ib_ne e]
      rw [this]; simp
  · rename_i h
    have h0 : (l.lookup k).isSome := by
      cases hl : l.lookup k with
      | none => rw [hl] at h; exact absurd rfl h
      | some x => rfl
    clear h
    induction l with
    | nil => cases h0
    | cons y l ih =>
      obtain ⟨y1, y2⟩ := y
      rw [List.map_cons]
      by_cases e1 : y1 = k
      · subst e1
        rw [if_pos rfl, List.lookup_cons]
        by_cases e : j = y1
        · subst e; rw [ib_self, if_pos rfl]
        · rw [ib_ne e, if_neg e, List.lookup_cons, ib_ne e]
          have hm : ∀ l : List (Int × Value), List.lookup j (l.map fun x => if x.1 = y1 then (y1, v) else x) = List.lookup j l := by
            intro l
            induction l with
            | nil => rfl
            | cons z l ihl =>
              obtain ⟨z1, z2⟩ := z
              rw [List.map_cons]
              by_cases ez : z1 = y1
              · subst ez; rw [if_pos rfl, List.lookup_cons, ib_ne e, List.lookup_cons, ib_ne e]; exact ihl
              · rw [if_neg ez, List.lookup_cons, List.lookup_cons, ihl]
          exact hm l
      · rw [if_neg e1, List.lookup_cons, List.lookup_cons]
        rw [List.lookup_cons, ib_ne (fun h => e1 h.symm)] at h0
        by_cases e : j = y1
        · subst e; rw [ib_self, if_neg e1]
        · rw [ib_ne e]; exact ih h0
end Go.Proofs.YtcbmbhghmfehpaaGreat
