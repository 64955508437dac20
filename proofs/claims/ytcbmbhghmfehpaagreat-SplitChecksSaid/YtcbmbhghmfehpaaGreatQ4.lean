/- Maps whose keys are numbers. The split of a character of two states: plain. Lists of splits: ordered, each once. Plain. The plain law of the order of children: names compared, the least name below a node, children sorted. The closure that compares children: its contract. The world outside a forest. -/
import Derived.Test.YtcbmbhghmfehpaaGreatQ3
import Derived.Lib.Bytealg
import Derived.Sort.Statements
import Derived.Test.YtcbmbhghmfehpaaGreatQ1
namespace Go.Proofs.YtcbmbhghmfehpaaGreat
open Go.RowKit Go.Deep
def putJ (l : List (Int × Value)) (k : Int) (v : Value) : List (Int × Value) := if (l.lookup k).isNone then l ++ [(k, v)] else l.map fun x => if x.1 = k then (k, v) else x
def IMap (w : World) (b : Nat) (l : List (Int × Value)) : Prop := ∃ es clock, w.heap[b]? = some (.map es clock) ∧ es.toList.map (fun x => (x.key, x.val)) = l.map (fun x => (Value.int .i64 x.1, x.2))
def UniqI (l : List (Int × Value)) : Prop := (l.map (·.1)).Nodup
theorem ib_beq (a b : Int) : (a == b) = decide (a = b) := by by_cases h : a = b <;> simp [h]
theorem ib_self (a : Int) : (a == a) = true := by rw [ib_beq]; simp
theorem ib_ne {a b : Int} (h : ¬ a = b) : (a == b) = false := by rw [ib_beq]; simpa using h
section
variable {P : Program} {w : World}
theorem findNow_i (k : Int) : ∀ (es : List MapEntry) (l : List (Int × Value)) (i : Nat),
    es.map (fun x => (x.key, x.val)) = l.map (fun x => (Value.int .i64 x.1, x.2)) →
      (l.lookup k = none ∧ Instr.findNow (.int .i64) (.int .i64 k) es i = some none) ∨ ∃ j v, l.lookup k = some v ∧ (l[j]?).map (·.1) = some k ∧ Instr.findNow (.int .i64) (.int .i64 k) es i = some (some (i + j, v)) := by
  intro es
  induction es with
  | nil =>
    intro l i hl
    cases l with
    | nil => exact .inl ⟨rfl, rfl⟩
    | cons => cases hl
  | cons x es ih =>
    intro l i hl
    cases l with
    | nil => cases hl
    | cons y l =>
      simp only [List.map_cons, List.cons.injEq, Prod.mk.injEq] at hl
      obtain ⟨⟨h1, h2⟩, h3⟩ := hl
      obtain ⟨y1, y2⟩ := y
      have h1 : x.key = .int .i64 y1 := h1
      have h2 : x.val = y2 := h2
      by_cases h : k = y1
      · subst h
        refine .inr ⟨0, y2, by rw [List.lookup_cons, ib_self], rfl, ?_⟩
        simp [Instr.findNow, Instr.sameNow, h1, h2]
      · have hb : (k == y1) = false := ib_ne h
        rcases ih l (i + 1) h3 with ⟨h4, h5⟩ | ⟨j, v, h4, h5, h6⟩
        · refine .inl ⟨by rw [List.lookup_cons, hb]; exact h4, ?_⟩
          simp [Instr.findNow, Instr.sameNow, h1, hb, h5]
        · refine .inr ⟨j + 1, v, by rw [List.lookup_cons, hb]; exact h4, by simpa using h5, ?_⟩
          simp [Instr.findNow, Instr.sameNow, h1, hb, h6]; omega
theorem run_findI {t : TypeId} (ht : P.underlying t = some (.int .i64)) (k : Int) (es : List MapEntry) (l : List (Int × Value)) (hl : es.map (fun x => (x.key, x.val)) = l.map (fun x => (Value.int .i64 x.1, x.2))) :
    (l.lookup k = none ∧ (Instr.findKey t (.int .i64 k) es).run P w = .ok none w) ∨ ∃ j v, l.lookup k = some v ∧ (l[j]?).map (·.1) = some k ∧ (Instr.findKey t (.int .i64 k) es).run P w = .ok (some (j, v)) w := by
  have hu := run_underlying (w := w) ht
  rcases findNow_i k es l 0 hl with ⟨h1, h2⟩ | ⟨j, v, h1, h2, h3⟩
  · exact .inl ⟨h1, by simp [Instr.findKey, hu, h2]⟩
  · exact .inr ⟨j, v, h1, h2, by simp [Instr.findKey, hu, h3]⟩
theorem run_checkI {t : TypeId} (ht : P.underlying t = some (.int .i64)) (em : Bool) (k : Int) : (Instr.checkKey em 10000 t (.int .i64 k)).run P w = .ok () w := by
  have hu := run_underlying (w := w) ht
  show (Instr.checkKey em (9999 + 1) t (.int .i64 k)).run P w = _
  unfold Instr.checkKey
  simp [hu]
theorem lookupI_none {l : List (Int × Value)} {k : Int} : l.lookup k = none ↔ k ∉ l.map (·.1) := by
  induction l with
  | nil => simp
  | cons y l ih =>
    obtain ⟨y1, y2⟩ := y
    rw [List.lookup_cons]
    by_cases h : k = y1
    · subst h; simp
    · have hb : (k == y1) = false := ib_ne h
      rw [hb]; simp only [List.map_cons, List.mem_cons, not_or]
      exact ⟨fun h2 => ⟨h, ih.1 h2⟩, fun h2 => ih.2 h2.2⟩
theorem putJ_keys (l : List (Int × Value)) (k : Int) (v : Value) : (putJ l k v).map (·.1) = if (l.lookup k).isNone then l.map (·.1) ++ [k] else l.map (·.1) := by
  unfold putJ
  split
  · simp
  · rw [List.map_map]
    refine List.map_congr_left fun x _ => ?_
    show (if x.1 = k then (k, v) else x).1 = x.1
    split
    · rename_i h; exact h.symm
    · rfl
theorem putJ_uniq {l : List (Int × Value)} (h : UniqI l) (k : Int) (v : Value) : UniqI (putJ l k v) := by
  unfold UniqI
  rw [putJ_keys]
  split
  · rename_i h2
    have h3 : k ∉ l.map (·.1) := lookupI_none.1 (by simpa using h2)
    rw [List.nodup_append]
    refine ⟨h, by simp, fun a ha b hb => ?_⟩
    have : b = k := by simpa using hb
    subst this
    exact fun e => h3 (by rw [← e]; exact ha)
  · exact h
theorem modI_uniq {l : List (Int × Value)} (h : UniqI l) {k : Int} (v : Value) {j : Nat} (hj : (l[j]?).map (·.1) = some k) : (l.map fun x => if x.1 = k then (k, v) else x) = l.set j (k, v) := by
  apply List.ext_getElem?
  intro m
  have hjl : j < l.length := by
    cases hlj : l[j]? with
    | none => rw [hlj] at hj; cases hj
    | some y => exact (List.getElem?_eq_some_iff.1 hlj).1
  rw [List.getElem?_map, List.getElem?_set]
  by_cases e : j = m
  · subst e
    rw [if_pos rfl, if_pos hjl]
    rw [List.getElem?_eq_getElem hjl] at hj ⊢
    have h3 : (l[j]).1 = k := by simpa using hj
    simp [h3]
  · rw [if_neg e]
    cases hm : l[m]? with
    | none => rfl
    | some y =>
      have hml := (List.getElem?_eq_some_iff.1 hm).1
      have hne : y.1 ≠ k := fun h4 => by
        have h5 : (l.map (·.1))[m]? = (l.map (·.1))[j]? := by rw [List.getElem?_map, List.getElem?_map, hm, hj]; simp [h4]
        have h6 : m < (l.map (·.1)).length := by simpa using hml
        have h7 : j < (l.map (·.1)).length := by simpa using hjl
        rw [List.getElem?_eq_getElem h6, List.getElem?_eq_getElem h7] at h5
        injection h5 with h5
        exact e ((List.getElem_inj h).1 h5).symm
      simp [hne]
theorem IMap.made (w : World) : IMap (w.alloc (.map #[] 0)) w.heap.size [] := ⟨#[], 0, (MapKept.heap_alloc w _).1, rfl⟩
theorem IMap.same {w' : World} {b : Nat} {l : List (Int × Value)} (h : IMap w b l) (hb : w'.heap[b]? = w.heap[b]?) : IMap w' b l := by
  obtain ⟨es, clock, h1, h2⟩ := h
  exact ⟨es, clock, hb.trans h1, h2⟩
theorem IMap.lt {b : Nat} {l : List (Int × Value)} (h : IMap w b l) : b < w.heap.size := by
  obtain ⟨es, clock, h1, _⟩ := h
  exact (Array.getElem?_eq_some_iff.1 h1).1
theorem run_iset {mt t el : TypeId} (hm : P.underlying mt = some (.map t el)) (ht : P.underlying t = some (.int .i64)) {b : Nat} {l : List (Int × Value)} (h : IMap w b l) (hq : UniqI l) (k : Int) (v : Value) :
    ∃ w', (Instr.mapUpdate mt (.map (some b)) (.int .i64 k) v).run P w = .ok () w' ∧ IMap w' b (putJ l k v) ∧ w'.heap.size = w.heap.size ∧ w'.os = w.os ∧ w'.tape = w.tape ∧ w'.output = w.output ∧ ∀ j, j ≠ b → w'.heap[j]? = w.heap[j]? := by
  obtain ⟨es, clock, hb, hl⟩ := h
  have hu := run_underlying (w := w) hm
  have hg := MapKept.run_getObj_map (P := P) hb
  have hbl := (Array.getElem?_eq_some_iff.1 hb).1
  rcases run_findI (w := w) ht k es.toList l hl with ⟨h1, h2⟩ | ⟨j, v', h1, h5, h2⟩
  · have hs := MapKept.run_setObj_map (P := P) (.map (es.push { key := .int .i64 k, val := v, born := clock }) (clock + 1)) hb
    refine ⟨{ w with heap := w.heap.setIfInBounds b (.map (es.push { key := .int .i64 k, val := v, born := clock }) (clock + 1)) }, by simp [Instr.mapUpdate, hu, hg, run_checkI ht, h2, hs], ⟨es.push { key := .int .i64 k, val := v, born := clock }, clock + 1, by simp [hbl], ?_⟩, by simp, rfl, rfl, rfl, fun j hj => by simp [Ne.symm hj]⟩
    unfold putJ; rw [h1]; simp [hl]
  · have hkey : ((es[j]?).map (·.key)) = some (.int .i64 k) := by
      have h8 := congrArg (fun q => (q[j]?).map (·.1)) hl
      simp only [List.getElem?_map, Option.map_map] at h8
      have h9 : (l[j]?).map (fun x => Value.int .i64 x.1) = some (.int .i64 k) := by
        cases hlj : l[j]? with
        | none => rw [hlj] at h5; cases h5
        | some y => rw [hlj] at h5; simp at h5; simp [h5]
      have h10 : (es.toList[j]?).map (·.key) = (l[j]?).map (fun x => Value.int .i64 x.1) := h8
      rw [← Array.getElem?_toList, h10, h9]
    have hst : (Instr.keyThatStays (((es[j]?).map (·.key)).getD (.int .i64 k)) (.int .i64 k)).run P w = .ok (.int .i64 k) w := by
      rw [hkey]
      have h0 : Instr.sameBits 10000 (.int .i64 k) (.int .i64 k) = true := by simp [Instr.sameBits]
      show (Instr.keyThatStays (.int .i64 k) (.int .i64 k)).run P w = _
      unfold Instr.keyThatStays
      rw [if_pos h0]; rfl
    have hs := MapKept.run_setObj_map (P := P) (.map (es.modify j fun e => { e with key := .int .i64 k, val := v }) clock) hb
    refine ⟨{ w with heap := w.heap.setIfInBounds b (.map (es.modify j fun e => { e with key := .int .i64 k, val := v }) clock) }, by simp [Instr.mapUpdate, hu, hg, run_checkI ht, h2, hst, hs], ⟨es.modify j fun e => { e with key := .int .i64 k, val := v }, clock, by simp [hbl], ?_⟩, by simp, rfl, rfl, rfl, fun m hm => by simp [Ne.symm hm]⟩
    have hpl : putJ l k v = l.set j (k, v) := by
      unfold putJ; rw [h1]
      exact modI_uniq hq v h5
    rw [hpl]
    apply List.ext_getElem?
    intro m
    have h8 := congrArg (fun q => q[m]?) hl
    simp only [List.getElem?_map] at h8
    rw [List.getElem?_map, List.getElem?_map, Array.getElem?_toList, Array.getElem?_modify, List.getElem?_set]
    have hjl : j < l.length := by
      cases hlj : l[j]? with
      | none => rw [hlj] at h5; cases h5
      | some y => exact (List.getElem?_eq_some_iff.1 hlj).1
    have hje : j < es.size := by have := congrArg List.length hl; simp at this; omega
    by_cases e : j = m
    · subst e
      rw [if_pos rfl, if_pos rfl, if_pos hjl, Array.getElem?_eq_getElem hje]
      rfl
    · rw [if_neg e, if_neg e, ← Array.getElem?_toList]; exact h8
theorem run_ilook {mt t el : TypeId} (hm : P.underlying mt = some (.map t el)) (ht : P.underlying t = some (.int .i64)) {z : Value} (hz : (zeroValue el).run P w = .ok z w) {b : Nat} {l : List (Int × Value)} (h : IMap w b l) (k : Int) :
    (Instr.lookup mt (.map (some b)) (.int .i64 k) false).run P w = .ok ((l.lookup k).getD z) w := by
  obtain ⟨es, clock, hb, hl⟩ := h
  have hu := run_underlying (w := w) hm
  have hg := MapKept.run_getObj_map (P := P) hb
  rcases run_findI (w := w) ht k es.toList l hl with ⟨h1, h2⟩ | ⟨j, v', h1, _, h2⟩
  · simp [Instr.lookup, hu, hg, run_checkI ht, h2, hz, h1]
  · simp [Instr.lookup, hu, hg, run_checkI ht, h2, h1]
end
theorem lookup_putJ {l : List (Int × Value)} {k j : Int} {v : Value} : (putJ l k v).lookup j = if j = k then some v else l.lookup j := by
  unfold putJ
  split
  · rename_i h
    have h0 : l.lookup k = none := by simpa using h
    rw [List.lookup_append]
    by_cases e : j = k
    · subst e; rw [if_pos rfl, h0]; simp [List.lookup]
    · rw [if_neg e]
      have : List.lookup j [(k, v)] = none := by simp [List.lookup, ib_ne e]
      rw [this]; simp
  · rename_i h
    have h0 : (l.lookup k).isSome := by
      cases hl : l.lookup k with
      | none => rw [hl] at h; exact absurd rfl h
      | some x => rfl
    clear h
    induction l with
    | nil => cases h0
    | cons y l ih =>
      obtain ⟨y1, y2⟩ := y
      rw [List.map_cons]
      by_cases e1 : y1 = k
      · subst e1
        rw [if_pos rfl, List.lookup_cons]
        by_cases e : j = y1
        · subst e; rw [ib_self, if_pos rfl]
        · rw [ib_ne e, if_neg e, List.lookup_cons, ib_ne e]
          have hm : ∀ l : List (Int × Value), List.lookup j (l.map fun x => if x.1 = y1 then (y1, v) else x) = List.lookup j l := by
            intro l
            induction l with
            | nil => rfl
            | cons z l ihl =>
              obtain ⟨z1, z2⟩ := z
              rw [List.map_cons]
              by_cases ez : z1 = y1
              · subst ez; rw [if_pos rfl, List.lookup_cons, ib_ne e, List.lookup_cons, ib_ne e]; exact ihl
              · rw [if_neg ez, List.lookup_cons, List.lookup_cons, ihl]
          exact hm l
      · rw [if_neg e1, List.lookup_cons, List.lookup_cons]
        rw [List.lookup_cons, ib_ne (fun h => e1 h.symm)] at h0
        by_cases e : j = y1
        · subst e; rw [ib_self, if_neg e1]
        · rw [ib_ne e]; exact ih h0
end Go.Proofs.YtcbmbhghmfehpaaGreat
namespace Go.Proofs.YtcbmbhghmfehpaaGreat
open Go.RowKit Go.Deep
def badS (s : Int) : Bool := decide (s < -1) || decide (16 ≤ s)
def osErr (st : List Int) : Int := if 32 < st.length then 4 else if (List.range st.length).any (fun j => badS (gi st j)) then 2 else 0
def osO (st : List Int) (k : Nat) : List Int := memK (fun i => gi st i.toNat != gi st 0) k
def cntS (st : List Int) (s : Int) : Nat → Nat
  | 0 => 0
  | k + 1 => cntS st s k + if gi st k = s then 1 else 0
def ctK (st : List Int) : Nat → List (Int × Value)
  | 0 => []
  | k + 1 => putJ (ctK st k) (gi st k) (.int .i64 ((cntS st (gi st k) k : Nat) + 1 : Int))
theorem ctK_uniq (st : List Int) : ∀ k, UniqI (ctK st k)
  | 0 => List.nodup_nil
  | k + 1 => putJ_uniq (ctK_uniq st k) _ _
theorem ctK_look (st : List Int) (s : Int) : ∀ k, ((ctK st k).lookup s).getD (.int .i64 0) = .int .i64 (cntS st s k : Nat)
  | 0 => rfl
  | k + 1 => by
    rw [ctK, lookup_putJ, cntS]
    by_cases h : s = gi st k
    · rw [if_pos h, if_pos h.symm, h]; simp
    · rw [if_neg h, if_neg (fun e => h e.symm), ctK_look st s k]; rfl
theorem cntS_le (st : List Int) (s : Int) : ∀ k, cntS st s k ≤ k
  | 0 => Nat.le_refl _
  | k + 1 => by have := cntS_le st s k; rw [cntS]; split <;> omega
theorem cntS_pos {st : List Int} {s : Int} : ∀ {k : Nat}, 0 < cntS st s k ↔ ∃ j, j < k ∧ gi st j = s
  | 0 => by simp [cntS]
  | k + 1 => by
    rw [cntS]
    constructor
    · intro h
      by_cases e : gi st k = s
      · exact ⟨k, by omega, e⟩
      · rw [if_neg e] at h
        obtain ⟨j, hj, e⟩ := cntS_pos.1 h
        exact ⟨j, by omega, e⟩
    · rintro ⟨j, hj, e⟩
      by_cases hjk : j = k
      · subst hjk; rw [if_pos e]; omega
      · have := cntS_pos.2 ⟨j, (by omega : j < k), e⟩
        omega
theorem ctK_mem {st : List Int} {s : Int} : ∀ {k : Nat}, s ∈ (ctK st k).map (·.1) ↔ ∃ j, j < k ∧ gi st j = s
  | 0 => by simp [ctK]
  | k + 1 => by
    rw [ctK, putJ_keys]
    have ih := ctK_mem (st := st) (s := s) (k := k)
    constructor
    · intro h
      split at h
      · rcases List.mem_append.1 h with h | h
        · obtain ⟨j, hj, e⟩ := ih.1 h; exact ⟨j, by omega, e⟩
        · exact ⟨k, by omega, (List.mem_singleton.1 h).symm⟩
      · obtain ⟨j, hj, e⟩ := ih.1 h; exact ⟨j, by omega, e⟩
    · rintro ⟨j, hj, e⟩
      by_cases hjk : j = k
      · subst hjk
        split
        · exact List.mem_append_right _ (by rw [e]; simp)
        · rename_i h2
          by_cases h3 : gi st j ∈ (ctK st j).map (·.1)
          · rw [← e]; exact h3
          · exact absurd (by rw [lookupI_none.2 h3]; rfl) h2
      · have := ih.2 ⟨j, by omega, e⟩
        split
        · exact List.mem_append_left _ this
        · exact this
theorem ctK_len (st : List Int) : ∀ k, (ctK st k).length ≤ k
  | 0 => Nat.le_refl _
  | k + 1 => by
    have h := ctK_len st k
    rw [ctK]; unfold putJ
    split <;> simp <;> omega
def osB (st : List Int) : Bool := !(decide (0 < cntS st (-1) st.length) || decide ((ctK st st.length).length ≠ 2) || decide ((osO st st.length).length < 2) || decide ((st.length : Int) - 2 < ((osO st st.length).length : Int)))
structure OsOk (st : List Int) : Prop where
  known : ∀ i, i < st.length → 0 ≤ gi st i
  two : ∀ i j, i < st.length → j < st.length → gi st i ≠ gi st 0 → gi st j ≠ gi st 0 → gi st i = gi st j
  many : 2 ≤ (osO st st.length).length
  left : (osO st st.length).length + 2 ≤ st.length
theorem mem_osO {st : List Int} {k : Nat} {x : Int} : x ∈ osO st k ↔ 0 ≤ x ∧ x < (k : Int) ∧ gi st x.toNat ≠ gi st 0 := by
  unfold osO; rw [mem_memK]; simp
theorem os_ge {st : List Int} (h : osErr st = 0) : st.length ≤ 32 ∧ ∀ i, i < st.length → -1 ≤ gi st i ∧ gi st i < 16 := by
  unfold osErr at h
  split at h
  · exact absurd h (by decide)
  · split at h
    · exact absurd h (by decide)
    · rename_i h1 h2
      refine ⟨by omega, fun i hi => ?_⟩
      have h3 := any_false (by simpa using h2 : (List.range st.length).any (fun j => badS (gi st j)) = false) hi
      unfold badS at h3
      simp only [Bool.or_eq_false_iff, decide_eq_false_iff_not] at h3
      omega
theorem nodup_subL : ∀ {p q : List Int}, p.Nodup → (∀ x ∈ p, x ∈ q) → p.length ≤ q.length
  | [], _, _, _ => Nat.zero_le _
  | x :: p, q, hn, h => by
    rw [List.nodup_cons] at hn
    have h1 := nodup_subL (p := p) (q := q.erase x) hn.2 fun y hy => (List.mem_erase_of_ne (fun e => hn.1 (by rw [← e]; exact hy))).2 (h y (by simp [hy]))
    rw [List.length_erase_of_mem (h x (by simp))] at h1
    have := List.length_pos_of_mem (h x (by simp))
    rw [List.length_cons]; omega
theorem os_iff {st : List Int} (h : osErr st = 0) : osB st = true ↔ OsOk st := by
  obtain ⟨h32, hge⟩ := os_ge h
  have hun : ((ctK st st.length).map (·.1)).Nodup := ctK_uniq st st.length
  have hmem := fun s => ctK_mem (st := st) (s := s) (k := st.length)
  have hkl : ((ctK st st.length).map (·.1)).length = (ctK st st.length).length := List.length_map _
  generalize (ctK st st.length).map (·.1) = K at hun hmem hkl
  have hdef : osB st = true ↔ ¬ 0 < cntS st (-1) st.length ∧ K.length = 2 ∧ 2 ≤ (osO st st.length).length ∧ (osO st st.length).length + 2 ≤ st.length := by
    unfold osB
    rw [Bool.not_eq_true', Bool.or_eq_false_iff, Bool.or_eq_false_iff, Bool.or_eq_false_iff, decide_eq_false_iff_not, decide_eq_false_iff_not, decide_eq_false_iff_not, decide_eq_false_iff_not, hkl]
    constructor
    · rintro ⟨⟨⟨a, b⟩, c⟩, d⟩; exact ⟨a, by omega, by omega, by omega⟩
    · rintro ⟨a, b, c, d⟩; exact ⟨⟨⟨a, by omega⟩, by omega⟩, by omega⟩
  rw [hdef]
  have hkn : (¬ 0 < cntS st (-1) st.length) ↔ ∀ i, i < st.length → 0 ≤ gi st i := by
    rw [cntS_pos]
    constructor
    · intro h1 i hi
      have := hge i hi
      by_cases e : gi st i = -1
      · exact absurd ⟨i, hi, e⟩ h1
      · omega
    · rintro h1 ⟨j, hj, e⟩
      have := h1 j hj; omega
  rw [hkn]
  have key : 2 ≤ (osO st st.length).length → (osO st st.length).length + 2 ≤ st.length → (K.length = 2 ↔ ∀ i j, i < st.length → j < st.length → gi st i ≠ gi st 0 → gi st j ≠ gi st 0 → gi st i = gi st j) := by
    intro h1 h2
    have hm0 : gi st 0 ∈ K := (hmem _).2 ⟨0, by omega, rfl⟩
    obtain ⟨x, hx⟩ := List.exists_mem_of_length_pos (show 0 < (osO st st.length).length by omega)
    obtain ⟨x0, x1, x2⟩ := mem_osO.1 hx
    have hmx : gi st x.toNat ∈ K := (hmem _).2 ⟨x.toNat, by omega, rfl⟩
    constructor
    · intro hK i j hi hj ei ej
      have hmi : gi st i ∈ K := (hmem _).2 ⟨i, hi, rfl⟩
      have hmj : gi st j ∈ K := (hmem _).2 ⟨j, hj, rfl⟩
      by_cases e : gi st i = gi st j
      · exact e
      · have h3 : ([gi st 0, gi st i, gi st j] : List Int).Nodup := by
          simp [List.nodup_cons, e, Ne.symm ei, Ne.symm ej]
        have h4 := nodup_subL h3 (q := K) (fun y hy => by
          simp only [List.mem_cons, List.not_mem_nil, or_false] at hy
          rcases hy with rfl | rfl | rfl
          · exact hm0
          · exact hmi
          · exact hmj)
        simp at h4; omega
    · intro hall
      have h3 : ([gi st 0, gi st x.toNat] : List Int).Nodup := by simp [List.nodup_cons, Ne.symm x2]
      have h4 := nodup_subL h3 (q := K) (fun y hy => by
        simp only [List.mem_cons, List.not_mem_nil, or_false] at hy
        rcases hy with rfl | rfl
        · exact hm0
        · exact hmx)
      have h5 := nodup_subL hun (q := [gi st 0, gi st x.toNat]) (fun y hy => by
        obtain ⟨j, hj, rfl⟩ := (hmem y).1 hy
        by_cases e : gi st j = gi st 0
        · simp [e]
        · simp [hall j x.toNat hj (by omega) e x2])
      simp at h4 h5; omega
  constructor
  · rintro ⟨a, b, c, d⟩
    exact ⟨a, (key c d).1 b, c, d⟩
  · rintro ⟨a, b, c, d⟩
    exact ⟨a, (key c d).2 b, c, d⟩
def osR (st : List Int) : List Int := if osErr st = 0 ∧ osB st = true then osO st st.length else []
def osV (st : List Int) : Bool := decide (osErr st = 0) && osB st
end Go.Proofs.YtcbmbhghmfehpaaGreat
namespace Go.Proofs.YtcbmbhghmfehpaaGreat
def cmpL : List Int → List Int → Int
  | [], [] => 0
  | [], _ :: _ => -1
  | _ :: _, [] => 1
  | a :: a1, b :: bs => if a < b then -1 else if b < a then 1 else cmpL a1 bs
theorem cmpL_self : ∀ a : List Int, cmpL a a = 0
  | [] => rfl
  | a :: a1 => by rw [cmpL, if_neg (by omega), if_neg (by omega)]; exact cmpL_self a1
theorem cmpL_zero : ∀ {a b : List Int}, cmpL a b = 0 → a = b
  | [], [], _ => rfl
  | [], _ :: _, h => by rw [cmpL] at h; omega
  | _ :: _, [], h => by rw [cmpL] at h; omega
  | a :: a1, b :: bs, h => by
    rw [cmpL] at h
    split at h
    · omega
    · split at h
      · omega
      · rw [cmpL_zero h]; congr 1; omega
theorem cmpL_anti : ∀ a b : List Int, cmpL b a = - cmpL a b
  | [], [] => rfl
  | [], _ :: _ => rfl
  | _ :: _, [] => rfl
  | a :: a1, b :: bs => by
    rw [cmpL, cmpL]
    by_cases h1 : a < b
    · simp only [if_pos h1, if_neg (show ¬ b < a by omega)]; rfl
    · by_cases h2 : b < a
      · simp only [if_pos h2, if_neg h1]
      · rw [if_neg h1, if_neg h2, if_neg h2, if_neg h1]; exact cmpL_anti a1 bs
theorem cmpL_trans : ∀ {a b c : List Int}, cmpL a b < 0 → cmpL b c < 0 → cmpL a c < 0
  | [], [], c, h, _ => by rw [cmpL] at h; omega
  | [], _ :: _, [], _, h => by rw [cmpL] at h; omega
  | [], _ :: _, _ :: _, _, _ => by rw [cmpL]; omega
  | _ :: _, [], _, h, _ => by rw [cmpL] at h; omega
  | _ :: _, _ :: _, [], _, h => by rw [cmpL] at h; omega
  | a :: a1, b :: bs, c :: cs, h1, h2 => by
    rw [cmpL] at h1 h2 ⊢
    by_cases x1 : a < b
    · by_cases y1 : b < c
      · rw [if_pos (by omega)]; omega
      · rw [if_neg y1] at h2
        by_cases y2 : c < b
        · rw [if_pos y2] at h2; omega
        · rw [if_pos (by omega)]; omega
    · rw [if_neg x1] at h1
      by_cases x2 : b < a
      · rw [if_pos x2] at h1; omega
      · rw [if_neg x2] at h1
        by_cases y1 : b < c
        · rw [if_pos (by omega)]; omega
        · rw [if_neg y1] at h2
          by_cases y2 : c < b
          · rw [if_pos y2] at h2; omega
          · rw [if_neg y2] at h2
            rw [if_neg (by omega), if_neg (by omega)]
            exact cmpL_trans h1 h2
def ltX (a b : List Int) : Prop := cmpL a b < 0
def leX (a b : List Int) : Prop := cmpL a b ≤ 0
theorem leX_trans {a b c : List Int} (h1 : leX a b) (h2 : leX b c) : leX a c := by
  unfold leX at *
  by_cases e1 : cmpL a b = 0
  · rw [cmpL_zero e1]; exact h2
  · by_cases e2 : cmpL b c = 0
    · rw [← cmpL_zero e2]; exact h1
    · have h3 : cmpL a b < 0 := by omega
      have h4 : cmpL b c < 0 := by omega
      exact Int.le_of_lt (cmpL_trans h3 h4)
def insX (a : List Int) : List (List Int) → List (List Int)
  | [] => [a]
  | b :: l => if cmpL a b ≤ 0 then a :: b :: l else b :: insX a l
def sortX : List (List Int) → List (List Int)
  | [] => []
  | a :: l => insX a (sortX l)
theorem insX_perm (a : List Int) : ∀ l : List (List Int), (insX a l).Perm (a :: l)
  | [] => List.Perm.refl _
  | b :: l => by
    rw [insX]
    split
    · exact List.Perm.refl _
    · exact (List.Perm.cons b (insX_perm a l)).trans (List.Perm.swap a b l)
theorem sortX_perm : ∀ l : List (List Int), (sortX l).Perm l
  | [] => List.Perm.refl _
  | a :: l => (insX_perm a _).trans (List.Perm.cons a (sortX_perm l))
theorem insX_sorted (a : List Int) : ∀ {l : List (List Int)}, l.Pairwise leX → (insX a l).Pairwise leX
  | [], _ => by simp [insX]
  | b :: l, h => by
    rw [insX]
    rw [List.pairwise_cons] at h
    split
    · rename_i h1
      refine List.pairwise_cons.2 ⟨fun c hc => ?_, List.pairwise_cons.2 h⟩
      rcases List.mem_cons.1 hc with rfl | hc
      · exact h1
      · exact leX_trans h1 (h.1 c hc)
    · rename_i h1
      refine List.pairwise_cons.2 ⟨fun c hc => ?_, insX_sorted a h.2⟩
      rcases List.mem_cons.1 ((insX_perm a l).mem_iff.1 hc) with rfl | hc
      · unfold leX; have := cmpL_anti c b; omega
      · exact h.1 c hc
theorem sortX_sorted : ∀ l : List (List Int), (sortX l).Pairwise leX
  | [] => List.Pairwise.nil
  | a :: l => insX_sorted a (sortX_sorted l)
theorem sortX_uniq {a b : List (List Int)} (hp : a.Perm b) (h : a.Pairwise leX) : a = sortX b :=
  List.Perm.eq_of_pairwise (le := leX) (fun x y _ _ h1 h2 => cmpL_zero (by unfold leX at h1 h2; have := cmpL_anti x y; omega)) h (sortX_sorted b) (hp.trans (sortX_perm b).symm)
def cptX : List (List Int) → List (List Int)
  | [] => []
  | a :: l => if l.head? = some a then cptX l else a :: cptX l
theorem mem_cptX {x : List Int} : ∀ {l : List (List Int)}, x ∈ cptX l ↔ x ∈ l
  | [] => by rw [cptX]
  | a :: l => by
    rw [cptX]
    split
    · rename_i h
      rw [mem_cptX, List.mem_cons]
      constructor
      · exact .inr
      · rintro (rfl | h1)
        · exact List.mem_of_head? h
        · exact h1
    · rw [List.mem_cons, List.mem_cons, mem_cptX]
theorem cptX_strict : ∀ {l : List (List Int)}, l.Pairwise leX → (cptX l).Pairwise ltX
  | [], _ => List.Pairwise.nil
  | a :: l, h => by
    rw [List.pairwise_cons] at h
    rw [cptX]
    split
    · exact cptX_strict h.2
    · rename_i hne
      refine List.pairwise_cons.2 ⟨fun c hc => ?_, cptX_strict h.2⟩
      have hc := mem_cptX.1 hc
      have h1 := h.1 c hc
      unfold ltX
      unfold leX at h1
      by_cases e : cmpL a c = 0
      · exfalso
        have e := cmpL_zero e
        subst e
        cases l with
        | nil => cases hc
        | cons b l =>
          rw [List.head?_cons] at hne
          have h2 := h.1 b (by simp)
          rcases List.mem_cons.1 hc with rfl | hc
          · exact hne rfl
          · have h3 := (List.pairwise_cons.1 h.2).1 _ hc
            unfold leX at h2 h3
            have := cmpL_anti a b
            exact hne (by rw [cmpL_zero (a := a) (b := b) (by omega)])
      · omega
theorem ltX_ext {a b : List (List Int)} (ha : a.Pairwise ltX) (hb : b.Pairwise ltX) (h : ∀ x, x ∈ a ↔ x ∈ b) : a = b := by
  have nd : ∀ {q : List (List Int)}, q.Pairwise ltX → q.Nodup := fun hq => hq.imp fun {x y} h1 e => by subst e; unfold ltX at h1; rw [cmpL_self] at h1; omega
  have hp : a.Perm b := (List.perm_ext_iff_of_nodup (nd ha) (nd hb)).2 h
  exact List.Perm.eq_of_pairwise (le := ltX) (fun x y _ _ h1 h2 => by unfold ltX at h1 h2; have := cmpL_anti x y; omega) ha hb hp
def ordX (l : List (List Int)) : List (List Int) := cptX (sortX l)
theorem mem_ordX {x : List Int} {l : List (List Int)} : x ∈ ordX l ↔ x ∈ l := by unfold ordX; rw [mem_cptX]; exact (sortX_perm l).mem_iff
theorem ordX_strict (l : List (List Int)) : (ordX l).Pairwise ltX := cptX_strict (sortX_sorted l)
theorem ordX_congr {a b : List (List Int)} (h : ∀ x, x ∈ a ↔ x ∈ b) : ordX a = ordX b := ltX_ext (ordX_strict a) (ordX_strict b) fun x => by rw [mem_ordX, mem_ordX]; exact h x
end Go.Proofs.YtcbmbhghmfehpaaGreat
namespace Go.Proofs.YtcbmbhghmfehpaaGreat
open Go.Sort
theorem cmp_anti : ∀ a b : List UInt8, Lib.compareBytes b a = - Lib.compareBytes a b
  | [], [] => rfl
  | [], _ :: _ => rfl
  | _ :: _, [] => rfl
  | a :: u, b :: v => by
    unfold Lib.compareBytes
    by_cases h1 : a < b
    · have h2 : ¬ b < a := by rw [UInt8.lt_iff_toNat_lt] at *; omega
      simp [h1, h2]
    · by_cases h2 : b < a
      · simp [h1, h2]
      · simp only [h1, h2, if_false]; exact cmp_anti u v
theorem cmp_zero : ∀ {a b : List UInt8}, Lib.compareBytes a b = 0 → a = b
  | [], [], _ => rfl
  | [], _ :: _, h => by cases h
  | _ :: _, [], h => by cases h
  | a :: u, b :: v, h => by
    unfold Lib.compareBytes at h
    split at h
    · cases h
    · split at h
      · cases h
      · rename_i h1 h2
        have e : a = b := by
          apply UInt8.toNat.inj
          rw [UInt8.lt_iff_toNat_lt] at h1 h2; omega
        rw [e, cmp_zero h]
theorem cmp_self (a : List UInt8) : Lib.compareBytes a a = 0 := by have := cmp_anti a a; omega
theorem cmp_trans : ∀ {a b c : List UInt8}, Lib.compareBytes a b < 0 → Lib.compareBytes b c < 0 → Lib.compareBytes a c < 0
  | [], [], _, h, _ => by cases h
  | [], _ :: _, [], _, h => by cases h
  | [], _ :: _, _ :: _, _, _ => Int.negSucc_lt_zero 0
  | _ :: _, [], _, h, _ => by cases h
  | _ :: _, _ :: _, [], _, h => by cases h
  | a :: u, b :: v, c :: x, h, h' => by
    unfold Lib.compareBytes at *
    by_cases h1 : a < b
    · by_cases h2 : b < c
      · have h3 : a < c := by rw [UInt8.lt_iff_toNat_lt] at *; omega
        rw [if_pos h3]; decide
      · rw [if_neg h2] at h'
        by_cases h3 : c < b
        · rw [if_pos h3] at h'; cases h'
        · have h4 : a < c := by rw [UInt8.lt_iff_toNat_lt] at *; omega
          rw [if_pos h4]; decide
    · rw [if_neg h1] at h
      by_cases h2 : b < a
      · rw [if_pos h2] at h; cases h
      · rw [if_neg h2] at h
        have e : a = b := by
          apply UInt8.toNat.inj
          rw [UInt8.lt_iff_toNat_lt] at h1 h2; omega
        subst e
        by_cases h3 : a < c
        · rw [if_pos h3]; decide
        · rw [if_neg h3] at h' ⊢
          by_cases h4 : c < a
          · rw [if_pos h4] at h'; cases h'
          · rw [if_neg h4] at h' ⊢; exact cmp_trans h h'
def cmpS (a b : ByteArray) : Int := Lib.compareBytes a.data.toList b.data.toList
theorem cmpS_anti (a b : ByteArray) : cmpS b a = - cmpS a b := cmp_anti _ _
theorem cmpS_zero {a b : ByteArray} (h : cmpS a b = 0) : a = b := ba_ext (cmp_zero h)
theorem cmpS_trans {a b c : ByteArray} (h : cmpS a b < 0) (h' : cmpS b c < 0) : cmpS a c < 0 := cmp_trans h h'
theorem cmpS_self (a : ByteArray) : cmpS a a = 0 := cmp_self _
def leB (f : Nat → ByteArray) (x y : Nat) : Bool := decide (cmpS (f x) (f y) ≤ 0)
def srtBy (f : Nat → ByteArray) (l : List Nat) : List Nat := l.mergeSort (leB f)
theorem leB_trans (f : Nat → ByteArray) (a b c : Nat) (h : leB f a b = true) (h' : leB f b c = true) : leB f a c = true := by
  unfold leB at *
  simp only [decide_eq_true_eq] at *
  by_cases h1 : cmpS (f a) (f b) = 0
  · rw [cmpS_zero h1]; exact h'
  · by_cases h2 : cmpS (f b) (f c) = 0
    · rw [← cmpS_zero h2]; exact h
    · have := cmpS_trans (a := f a) (b := f b) (c := f c) (by omega) (by omega); omega
theorem leB_total (f : Nat → ByteArray) (a b : Nat) : (leB f a b || leB f b a) = true := by
  unfold leB
  have := cmpS_anti (f a) (f b)
  simp only [Bool.or_eq_true, decide_eq_true_eq]; omega
theorem srtBy_perm (f : Nat → ByteArray) (l : List Nat) : (srtBy f l).Perm l := List.mergeSort_perm _ _
theorem srtBy_sorted (f : Nat → ByteArray) (l : List Nat) : (srtBy f l).Pairwise (fun a b => leB f a b = true) := List.pairwise_mergeSort (leB_trans f) (leB_total f) l
theorem srtBy_congr {f g : Nat → ByteArray} {l : List Nat} (h : ∀ x ∈ l, f x = g x) : srtBy f l = srtBy g l := by
  have := List.map_mergeSort (f := id) (r := leB f) (s := leB g) (l := l) (fun a ha b hb => by simp only [leB, id]; rw [h a ha, h b hb])
  simpa [srtBy] using this
def Sep (f : Nat → ByteArray) (l : List Nat) : Prop := ∀ x ∈ l, ∀ y ∈ l, f x = f y → x = y
theorem srtBy_of_perm {f : Nat → ByteArray} {l l' : List Nat} (hp : l.Perm l') (hs : Sep f l) : srtBy f l = srtBy f l' := by
  refine List.Perm.eq_of_pairwise (le := fun a b => leB f a b = true) ?_ (srtBy_sorted f l) (srtBy_sorted f l') (((srtBy_perm f l).trans hp).trans (srtBy_perm f l').symm)
  intro a b ha hb h1 h2
  refine hs a ((srtBy_perm f l).mem_iff.1 ha) b (hp.mem_iff.2 ((srtBy_perm f l').mem_iff.1 hb)) (cmpS_zero ?_)
  unfold leB at h1 h2
  simp only [decide_eq_true_eq] at h1 h2
  have := cmpS_anti (f a) (f b); omega
structure Wf (F : Frs) (n : Nat) (rk : Nat → Nat) : Prop where
  kid : ∀ i, i < n → ∀ k ∈ F.kids i, k < n ∧ rk k < rk i
def lsD (F : Frs) : Nat → Nat → ByteArray
  | 0, i => F.nm i
  | d + 1, i => match srtBy (lsD F d) (F.kids i) with | [] => F.nm i | k :: _ => lsD F d k
theorem lsD_fuel {F : Frs} {n : Nat} {rk : Nat → Nat} (h : Wf F n rk) : ∀ {d e i : Nat}, i < n → rk i ≤ d → rk i ≤ e → lsD F d i = lsD F e i := by
  intro d
  induction d with
  | zero =>
    intro e i hi hd he
    have hk : F.kids i = [] := by
      cases hk : F.kids i with
      | nil => rfl
      | cons k l => have := (h.kid i hi k (by rw [hk]; simp)).2; omega
    cases e with
    | zero => rfl
    | succ e => simp [lsD, hk, srtBy]
  | succ d ih =>
    intro e i hi hd he
    have hsame : ∀ e', rk i ≤ e' + 1 → srtBy (lsD F d) (F.kids i) = srtBy (lsD F e') (F.kids i) := fun e' he' => srtBy_congr fun k hk => by
      have := h.kid i hi k hk
      exact ih this.1 (by omega) (by omega)
    cases e with
    | zero =>
      have hk : F.kids i = [] := by
        cases hk : F.kids i with
        | nil => rfl
        | cons k l => have := (h.kid i hi k (by rw [hk]; simp)).2; omega
      simp [lsD, hk, srtBy]
    | succ e =>
      simp only [lsD]
      rw [hsame e (by omega)]
      cases hc : srtBy (lsD F e) (F.kids i) with
      | nil => rfl
      | cons k l =>
        have hk : k ∈ F.kids i := (srtBy_perm _ _).mem_iff.1 (by rw [hc]; simp)
        have := h.kid i hi k hk
        exact ih this.1 (by omega) (by omega)
def lsF (F : Frs) (rk : Nat → Nat) (i : Nat) : ByteArray := lsD F (rk i) i
theorem lsF_eq {F : Frs} {n : Nat} {rk : Nat → Nat} (h : Wf F n rk) {i : Nat} (hi : i < n) : lsF F rk i = match srtBy (lsF F rk) (F.kids i) with | [] => F.nm i | k :: _ => lsF F rk k := by
  have h1 : lsF F rk i = lsD F (rk i + 1) i := lsD_fuel h hi (Nat.le_refl _) (Nat.le_succ _)
  rw [h1]
  simp only [lsD]
  have hs : srtBy (lsD F (rk i)) (F.kids i) = srtBy (lsF F rk) (F.kids i) := srtBy_congr fun k hk => by
    have := h.kid i hi k hk
    exact lsD_fuel h this.1 (by omega) (Nat.le_refl _)
  rw [hs]
  cases hc : srtBy (lsF F rk) (F.kids i) with
  | nil => rfl
  | cons k l =>
    have hk : k ∈ F.kids i := (srtBy_perm _ _).mem_iff.1 (by rw [hc]; simp)
    have := h.kid i hi k hk
    exact lsD_fuel h this.1 (by omega) (Nat.le_refl _)
def subD (F : Frs) : Nat → Nat → Nat → Bool
  | 0, i, j => j == i
  | d + 1, i, j => (j == i) || (F.kids i).any fun k => subD F d k j
def subF (F : Frs) (rk : Nat → Nat) (i j : Nat) : Bool := subD F (rk i) i j
theorem subD_fuel {F : Frs} {n : Nat} {rk : Nat → Nat} (h : Wf F n rk) : ∀ {d e i j : Nat}, i < n → rk i ≤ d → rk i ≤ e → subD F d i j = subD F e i j := by
  intro d
  induction d with
  | zero =>
    intro e i j hi hd he
    have hk : F.kids i = [] := by
      cases hk : F.kids i with
      | nil => rfl
      | cons k l => have := (h.kid i hi k (by rw [hk]; simp)).2; omega
    cases e with
    | zero => rfl
    | succ e => simp [subD, hk]
  | succ d ih =>
    intro e i j hi hd he
    cases e with
    | zero =>
      have hk : F.kids i = [] := by
        cases hk : F.kids i with
        | nil => rfl
        | cons k l => have := (h.kid i hi k (by rw [hk]; simp)).2; omega
      simp [subD, hk]
    | succ e =>
      simp only [subD]
      congr 1
      rw [Bool.eq_iff_iff, List.any_eq_true, List.any_eq_true]
      constructor
      · rintro ⟨k, hk, h1⟩
        have := h.kid i hi k hk
        exact ⟨k, hk, by rw [← ih (e := e) this.1 (by omega) (by omega)]; exact h1⟩
      · rintro ⟨k, hk, h1⟩
        have := h.kid i hi k hk
        exact ⟨k, hk, by rw [ih (e := e) this.1 (by omega) (by omega)]; exact h1⟩
theorem subF_eq {F : Frs} {n : Nat} {rk : Nat → Nat} (h : Wf F n rk) {i : Nat} (hi : i < n) (j : Nat) : subF F rk i j = ((j == i) || (F.kids i).any fun k => subF F rk k j) := by
  have h1 : subF F rk i j = subD F (rk i + 1) i j := subD_fuel h hi (Nat.le_refl _) (Nat.le_succ _)
  rw [h1]
  simp only [subD]
  congr 1
  rw [Bool.eq_iff_iff, List.any_eq_true, List.any_eq_true]
  constructor
  · rintro ⟨k, hk, h1⟩
    have := h.kid i hi k hk
    exact ⟨k, hk, by unfold subF; rw [← subD_fuel h this.1 (d := rk i) (by omega) (Nat.le_refl _)]; exact h1⟩
  · rintro ⟨k, hk, h1⟩
    have := h.kid i hi k hk
    exact ⟨k, hk, by rw [subD_fuel h this.1 (e := rk k) (by omega) (Nat.le_refl _)]; exact h1⟩
def Frs.srt (F : Frs) (rk : Nat → Nat) (p : Nat → Bool) : Frs := { F with kids := fun i => if p i then srtBy (lsF F rk) (F.kids i) else F.kids i }
theorem Frs.srt_perm (F : Frs) (rk : Nat → Nat) (p : Nat → Bool) (i : Nat) : ((F.srt rk p).kids i).Perm (F.kids i) := by
  show (if p i then _ else _ : List Nat).Perm _
  split
  · exact srtBy_perm _ _
  · exact List.Perm.refl _
end Go.Proofs.YtcbmbhghmfehpaaGreat
namespace Go.Proofs.YtcbmbhghmfehpaaGreat
open Go.RowKit Go.Deep
theorem Tryz.sizeNd : ∀ w, (Go.sizeOf 147).run Tryz.prog w = .ok 3 w := Tryz.sizeOf147
structure FUp (n : Nat) (A : Nat → Nat) (kv : Nat → Value) (w w' : World) : Prop where
  os : w'.os = w.os
  tape : w'.tape = w.tape
  output : w'.output = w.output
  size : w.heap.size ≤ w'.heap.size
  block : ∀ b, b < w.heap.size → (∀ i, i < n → b ≠ A i) → (∀ i, i < n → (kv i).ownBlock ≠ some b) → w'.heap[b]? = w.heap[b]?
section
variable {n base : Nat} {A : Nat → Nat} {kv : Nat → Value} {F : Frs} {a b c : World}
theorem FUp.refl (n : Nat) (A : Nat → Nat) (kv : Nat → Value) (w : World) : FUp n A kv w w := ⟨rfl, rfl, rfl, Nat.le_refl _, fun _ _ _ _ => rfl⟩
theorem FUp.trans (h : FUp n A kv a b) (k : FUp n A kv b c) : FUp n A kv a c :=
  ⟨k.os.trans h.os, k.tape.trans h.tape, k.output.trans h.output, Nat.le_trans h.size k.size, fun j hj h1 h2 => (k.block j (Nat.lt_of_lt_of_le hj h.size) h1 h2).trans (h.block j hj h1 h2)⟩
theorem FUp.of_up (h : Up a b) : FUp n A kv a b := ⟨h.os, h.tape, h.output, h.size, fun j hj _ _ => Below.block h j hj⟩
theorem FUp.below (h : FUp n A kv a b) (hF : FAt base n A kv F a) (hb : base ≤ a.heap.size) : Below base a b :=
  ⟨h.os, h.tape, h.output, h.size, fun j hj => h.block j (by omega) (fun i hi e => by have := hF.lo i hi; omega) (fun i hi e => by have := (hF.ownlt hi e).1; omega)⟩
end
set_option maxRecDepth 100000 in
set_option maxHeartbeats 400000 in
theorem sorted1_t (w : World) (bx m0 x y : Nat) (l : List (Option Nat × Value)) (sx sy : ByteArray) (hbx : w.cell? ⟨bx, 0, none⟩ = some (.map (some m0))) (hm : PMap w m0 l) (hok : ∀ z ∈ l, okKey w z.1) (hx : Plain w x) (hy : Plain w y)
    (h1 : l.lookup (some x) = some (.string sx)) (h2 : l.lookup (some y) = some (.string sy)) :
    Calls Tryz.prog 218 #[.pointer (some ⟨x, 0, none⟩), .pointer (some ⟨y, 0, none⟩), .pointer (some ⟨bx, 0, none⟩)] w fun e w' => e = .returned (.int .i64 (cmpS sx sy)) ∧ w = w' := by
  have g1 := run_pget (P := Tryz.prog) Tryz.underlying237 Tryz.underlying145 Tryz.sizeNd hm (k := some x) hx hok h1
  have g2 := run_pget (P := Tryz.prog) Tryz.underlying237 Tryz.underlying145 Tryz.sizeNd hm (k := some y) hy hok h2
  simp only [pk] at g1 g2
  clear hm hok hx hy h1 h2
  go_enter Tryz.func218, Tryz.ntmps218
  go_wp2_with (go_at_call 219; refine (Tryz.strings_Compare sx sy _).mono ?_; rintro e w' ⟨rfl, rfl⟩)
  go_ret
  exact ⟨rfl, rfl⟩
end Go.Proofs.YtcbmbhghmfehpaaGreat
