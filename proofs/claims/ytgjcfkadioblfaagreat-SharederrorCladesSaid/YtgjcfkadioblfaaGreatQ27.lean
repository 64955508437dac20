/- Maps whose keys are strings. Which nodes lie below a node of a tree that is numbered depth first. What Consistent computes: plain. Which parts the rose tree of nested sets has: the sets, and the single sources. -/
import Derived.Test.YtgjcfkadioblfaaGreatQ6
import Derived.Test.YtgjcfkadioblfaaGreatQ13
import Derived.Test.YtgjcfkadioblfaaGreatQ22
import Derived.Test.YtgjcfkadioblfaaGreatQ26
namespace Go.Proofs.YtgjcfkadioblfaaGreat
open Go.RowKit Go.Deep
/-- The entries behind 'm[k] = v'. -/
def putS (l : List (ByteArray × Value)) (k : ByteArray) (v : Value) : List (ByteArray × Value) := if (l.lookup k).isNone then l ++ [(k, v)] else l.map fun x => if x.1 = k then (k, v) else x
/-- The map at block b holds the entries l. -/
def SMap (w : World) (b : Nat) (l : List (ByteArray × Value)) : Prop := ∃ es clock, w.heap[b]? = some (.map es clock) ∧ es.toList.map (fun x => (x.key, x.val)) = l.map (fun x => (Value.string x.1, x.2))
def UniqS (l : List (ByteArray × Value)) : Prop := (l.map (·.1)).Nodup
theorem ba_beq (a b : ByteArray) : (a == b) = decide (a = b) := by
  obtain ⟨a⟩ := a
  obtain ⟨b⟩ := b
  have : ((⟨a⟩ : ByteArray) == ⟨b⟩) = (a == b) := rfl
  rw [this]
  by_cases h : a = b
  · subst h; simp
  · have h2 : ¬ (⟨a⟩ : ByteArray) = ⟨b⟩ := fun e => h (ByteArray.mk.inj e)
    rw [decide_eq_false h2]; simpa using h
theorem ba_self (a : ByteArray) : (a == a) = true := by rw [ba_beq]; simp
theorem ba_ne {a b : ByteArray} (h : ¬ a = b) : (a == b) = false := by rw [ba_beq]; simpa using h
section
variable {P : Program} {w : World}
theorem findNow_s (k : ByteArray) : ∀ (es : List MapEntry) (l : List (ByteArray × Value)) (i : Nat),
    es.map (fun x => (x.key, x.val)) = l.map (fun x => (Value.string x.1, x.2)) →
      (l.lookup k = none ∧ Instr.findNow .string (.string k) es i = some none) ∨ ∃ j v, l.lookup k = some v ∧ (l[j]?).map (·.1) = some k ∧ Instr.findNow .string (.string k) es i = some (some (i + j, v)) := by
  intro es
  induction es with
  | nil =>
    intro l i hl
    cases l with
    | nil => exact .inl ⟨rfl, rfl⟩
    | cons => cases hl
  | cons x es ih =>
    intro l i hl
    cases l with
    | nil => cases hl
    | cons y l =>
      simp only [List.map_cons, List.cons.injEq, Prod.mk.injEq] at hl
      obtain ⟨⟨h1, h2⟩, h3⟩ := hl
      obtain ⟨y1, y2⟩ := y
      have h1 : x.key = .string y1 := h1
      have h2 : x.val = y2 := h2
      by_cases h : k = y1
      · subst h
        refine .inr ⟨0, y2, by rw [List.lookup_cons, ba_self], rfl, ?_⟩
        simp [Instr.findNow, Instr.sameNow, h1, h2, ba_self]
      · have hb : (k == y1) = false := ba_ne h
        rcases ih l (i + 1) h3 with ⟨h4, h5⟩ | ⟨j, v, h4, h5, h6⟩
        · refine .inl ⟨by rw [List.lookup_cons, hb]; exact h4, ?_⟩
          simp [Instr.findNow, Instr.sameNow, h1, hb, h5]
        · refine .inr ⟨j + 1, v, by rw [List.lookup_cons, hb]; exact h4, by simpa using h5, ?_⟩
          simp [Instr.findNow, Instr.sameNow, h1, hb, h6]; omega
theorem run_findS {t : TypeId} (ht : P.underlying t = some .string) (k : ByteArray) (es : List MapEntry) (l : List (ByteArray × Value)) (hl : es.map (fun x => (x.key, x.val)) = l.map (fun x => (Value.string x.1, x.2))) :
    (l.lookup k = none ∧ (Instr.findKey t (.string k) es).run P w = .ok none w) ∨ ∃ j v, l.lookup k = some v ∧ (l[j]?).map (·.1) = some k ∧ (Instr.findKey t (.string k) es).run P w = .ok (some (j, v)) w := by
  have hu := run_underlying (w := w) ht
  rcases findNow_s k es l 0 hl with ⟨h1, h2⟩ | ⟨j, v, h1, h2, h3⟩
  · exact .inl ⟨h1, by simp [Instr.findKey, hu, h2]⟩
  · exact .inr ⟨j, v, h1, h2, by simp [Instr.findKey, hu, h3]⟩
theorem run_checkS {t : TypeId} (ht : P.underlying t = some .string) (em : Bool) (k : ByteArray) : (Instr.checkKey em 10000 t (.string k)).run P w = .ok () w := by
  have hu := run_underlying (w := w) ht
  show (Instr.checkKey em (9999 + 1) t (.string k)).run P w = _
  unfold Instr.checkKey
  simp [hu]
theorem lookupS_none {l : List (ByteArray × Value)} {k : ByteArray} : l.lookup k = none ↔ k ∉ l.map (·.1) := by
  induction l with
  | nil => simp
  | cons y l ih =>
    obtain ⟨y1, y2⟩ := y
    rw [List.lookup_cons]
    by_cases h : k = y1
    · subst h; simp [ba_self]
    · have hb : (k == y1) = false := ba_ne h
      rw [hb]; simp only [List.map_cons, List.mem_cons, not_or]
      exact ⟨fun h2 => ⟨h, ih.1 h2⟩, fun h2 => ih.2 h2.2⟩
theorem putS_keys (l : List (ByteArray × Value)) (k : ByteArray) (v : Value) : (putS l k v).map (·.1) = if (l.lookup k).isNone then l.map (·.1) ++ [k] else l.map (·.1) := by
  unfold putS
  split
  · simp
  · rw [List.map_map]
    refine List.map_congr_left fun x _ => ?_
    show (if x.1 = k then (k, v) else x).1 = x.1
    split
    · rename_i h; exact h.symm
    · rfl
theorem putS_uniq {l : List (ByteArray × Value)} (h : UniqS l) (k : ByteArray) (v : Value) : UniqS (putS l k v) := by
  unfold UniqS
  rw [putS_keys]
  split
  · rename_i h2
    have h3 : k ∉ l.map (·.1) := lookupS_none.1 (by simpa using h2)
    rw [List.nodup_append]
    refine ⟨h, by simp, fun a ha b hb => ?_⟩
    have : b = k := by simpa using hb
    subst this
    exact fun e => h3 (by rw [← e]; exact ha)
  · exact h
theorem modS_uniq {l : List (ByteArray × Value)} (h : UniqS l) {k : ByteArray} (v : Value) {j : Nat} (hj : (l[j]?).map (·.1) = some k) : (l.map fun x => if x.1 = k then (k, v) else x) = l.set j (k, v) := by
  apply List.ext_getElem?
  intro m
  have hjl : j < l.length := by
    cases hlj : l[j]? with
    | none => rw [hlj] at hj; cases hj
    | some y => exact (List.getElem?_eq_some_iff.1 hlj).1
  rw [List.getElem?_map, List.getElem?_set]
  by_cases e : j = m
  · subst e
    rw [if_pos rfl, if_pos hjl]
    rw [List.getElem?_eq_getElem hjl] at hj ⊢
    have h3 : (l[j]).1 = k := by simpa using hj
    simp [h3]
  · rw [if_neg e]
    cases hm : l[m]? with
    | none => rfl
    | some y =>
      have hml := (List.getElem?_eq_some_iff.1 hm).1
      have hne : y.1 ≠ k := fun h4 => by
        have h5 : (l.map (·.1))[m]? = (l.map (·.1))[j]? := by rw [List.getElem?_map, List.getElem?_map, hm, hj]; simp [h4]
        have h6 : m < (l.map (·.1)).length := by simpa using hml
        have h7 : j < (l.map (·.1)).length := by simpa using hjl
        rw [List.getElem?_eq_getElem h6, List.getElem?_eq_getElem h7] at h5
        injection h5 with h5
        exact e ((List.getElem_inj h).1 h5).symm
      simp [hne]
theorem SMap.made (w : World) : SMap (w.alloc (.map #[] 0)) w.heap.size [] := ⟨#[], 0, (MapKept.heap_alloc w _).1, rfl⟩
theorem SMap.same {w' : World} {b : Nat} {l : List (ByteArray × Value)} (h : SMap w b l) (hb : w'.heap[b]? = w.heap[b]?) : SMap w' b l := by
  obtain ⟨es, clock, h1, h2⟩ := h
  exact ⟨es, clock, hb.trans h1, h2⟩
theorem SMap.lt {b : Nat} {l : List (ByteArray × Value)} (h : SMap w b l) : b < w.heap.size := by
  obtain ⟨es, clock, h1, _⟩ := h
  exact (Array.getElem?_eq_some_iff.1 h1).1
/-- 'm[k] = v'. -/
theorem run_sset {mt t el : TypeId} (hm : P.underlying mt = some (.map t el)) (ht : P.underlying t = some .string) {b : Nat} {l : List (ByteArray × Value)} (h : SMap w b l) (hq : UniqS l) (k : ByteArray) (v : Value) :
    ∃ w', (Instr.mapUpdate mt (.map (some b)) (.string k) v).run P w = .ok () w' ∧ SMap w' b (putS l k v) ∧ w'.heap.size = w.heap.size ∧ w'.os = w.os ∧ w'.tape = w.tape ∧ w'.output = w.output ∧ ∀ j, j ≠ b → w'.heap[j]? = w.heap[j]? := by
  obtain ⟨es, clock, hb, hl⟩ := h
  have hu := run_underlying (w := w) hm
  have hg := MapKept.run_getObj_map (P := P) hb
  have hbl := (Array.getElem?_eq_some_iff.1 hb).1
  rcases run_findS (w := w) ht k es.toList l hl with ⟨h1, h2⟩ | ⟨j, v', h1, h5, h2⟩
  · have hs := MapKept.run_setObj_map (P := P) (.map (es.push { key := .string k, val := v, born := clock }) (clock + 1)) hb
    refine ⟨{ w with heap := w.heap.setIfInBounds b (.map (es.push { key := .string k, val := v, born := clock }) (clock + 1)) }, by simp [Instr.mapUpdate, hu, hg, run_checkS ht, h2, hs], ⟨es.push { key := .string k, val := v, born := clock }, clock + 1, by simp [hbl], ?_⟩, by simp, rfl, rfl, rfl, fun j hj => by simp [Ne.symm hj]⟩
    unfold putS; rw [h1]; simp [hl]
  · have hkey : ((es[j]?).map (·.key)) = some (.string k) := by
      have h8 := congrArg (fun q => (q[j]?).map (·.1)) hl
      simp only [List.getElem?_map, Option.map_map] at h8
      have h9 : (l[j]?).map (fun x => Value.string x.1) = some (.string k) := by
        cases hlj : l[j]? with
        | none => rw [hlj] at h5; cases h5
        | some y => rw [hlj] at h5; simp at h5; simp [h5]
      have h10 : (es.toList[j]?).map (·.key) = (l[j]?).map (fun x => Value.string x.1) := h8
      rw [← Array.getElem?_toList, h10, h9]
    have hst : (Instr.keyThatStays (((es[j]?).map (·.key)).getD (.string k)) (.string k)).run P w = .ok (.string k) w := by
      rw [hkey]
      have h0 : Instr.sameBits 10000 (.string k) (.string k) = true := by simp [Instr.sameBits, ba_self]
      show (Instr.keyThatStays (.string k) (.string k)).run P w = _
      unfold Instr.keyThatStays
      rw [if_pos h0]; rfl
    have hs := MapKept.run_setObj_map (P := P) (.map (es.modify j fun e => { e with key := .string k, val := v }) clock) hb
    refine ⟨{ w with heap := w.heap.setIfInBounds b (.map (es.modify j fun e => { e with key := .string k, val := v }) clock) }, by simp [Instr.mapUpdate, hu, hg, run_checkS ht, h2, hst, hs], ⟨es.modify j fun e => { e with key := .string k, val := v }, clock, by simp [hbl], ?_⟩, by simp, rfl, rfl, rfl, fun m hm => by simp [Ne.symm hm]⟩
    have hpl : putS l k v = l.set j (k, v) := by
      unfold putS; rw [h1]
      exact modS_uniq hq v h5
    rw [hpl]
    apply List.ext_getElem?
    intro m
    have h8 := congrArg (fun q => q[m]?) hl
    simp only [List.getElem?_map] at h8
    rw [List.getElem?_map, List.getElem?_map, Array.getElem?_toList, Array.getElem?_modify, List.getElem?_set]
    have hjl : j < l.length := by
      cases hlj : l[j]? with
      | none => rw [hlj] at h5; cases h5
      | some y => exact (List.getElem?_eq_some_iff.1 hlj).1
    have hje : j < es.size := by have := congrArg List.length hl; simp at this; omega
    by_cases e : j = m
    · subst e
      rw [if_pos rfl, if_pos rfl, if_pos hjl, Array.getElem?_eq_getElem hje]
      rfl
    · rw [if_neg e, if_neg e, ← Array.getElem?_toList]; exact h8
/-- 'm[k]'. -/
theorem run_slook {mt t el : TypeId} (hm : P.underlying mt = some (.map t el)) (ht : P.underlying t = some .string) {z : Value} (hz : (zeroValue el).run P w = .ok z w) {b : Nat} {l : List (ByteArray × Value)} (h : SMap w b l) (k : ByteArray) :
    (Instr.lookup mt (.map (some b)) (.string k) false).run P w = .ok ((l.lookup k).getD z) w := by
  obtain ⟨es, clock, hb, hl⟩ := h
  have hu := run_underlying (w := w) hm
  have hg := MapKept.run_getObj_map (P := P) hb
  rcases run_findS (w := w) ht k es.toList l hl with ⟨h1, h2⟩ | ⟨j, v', h1, _, h2⟩
  · simp [Instr.lookup, hu, hg, run_checkS ht, h2, hz, h1]
  · simp [Instr.lookup, hu, hg, run_checkS ht, h2, h1]
/-- 'v, ok := m[k]'. -/
theorem run_slook2 {mt t el : TypeId} (hm : P.underlying mt = some (.map t el)) (ht : P.underlying t = some .string) {z : Value} (hz : (zeroValue el).run P w = .ok z w) {b : Nat} {l : List (ByteArray × Value)} (h : SMap w b l) (k : ByteArray) :
    (Instr.lookup mt (.map (some b)) (.string k) true).run P w = .ok (.tuple #[(l.lookup k).getD z, .bool (l.lookup k).isSome]) w := by
  obtain ⟨es, clock, hb, hl⟩ := h
  have hu := run_underlying (w := w) hm
  have hg := MapKept.run_getObj_map (P := P) hb
  rcases run_findS (w := w) ht k es.toList l hl with ⟨h1, h2⟩ | ⟨j, v', h1, _, h2⟩
  · simp [Instr.lookup, hu, hg, run_checkS ht, h2, hz, h1]
  · simp [Instr.lookup, hu, hg, run_checkS ht, h2, h1]
end
end Go.Proofs.YtgjcfkadioblfaaGreat
namespace Go.Proofs.YtgjcfkadioblfaaGreat
/-- Up from k, while above n. -/
def climb (ps : List Int) (n : Nat) : Nat → Nat → Nat
  | 0, k => k
  | d + 1, k => if n < k then climb ps n d (gi ps k).toNat else k
def hitB (ps : List Int) (n i : Nat) : Bool := decide (climb ps n i i = n)
/-- The number of a name of one letter. -/
def lvNum (s : ByteArray) : Int := IntKind.u8.wrap (((s.data.toList.getD 0 0).toNat : Int) - 65)
def lvOne (t : Tre) (n i : Nat) : List Int := if hitB t.ps n i && decide ((gs t.ns i).size = 1) then [lvNum (gs t.ns i)] else []
def lvK (t : Tre) (n : Nat) : Nat → List Int
  | 0 => []
  | m + 1 => lvK t n m ++ lvOne t n (n + m)
theorem lvK_len (t : Tre) (n : Nat) : ∀ m, (lvK t n m).length ≤ m
  | 0 => Nat.le_refl _
  | m + 1 => by
    have := lvK_len t n m
    rw [lvK, List.length_append]
    unfold lvOne
    split
    · simp; omega
    · simp; omega
theorem pOkB_par {ps : List Int} (h : pOkB ps = true) {k : Nat} (hk : k < ps.length) (h0 : 0 < k) : 0 ≤ gi ps k ∧ gi ps k < k := by
  have h1 := pOkB_at h hk
  unfold okp at h1
  rw [if_neg (by omega)] at h1
  simpa using h1
theorem climb_fuel {ps : List Int} (hp : pOkB ps = true) (n : Nat) : ∀ {d e k : Nat}, k < ps.length → k ≤ d → k ≤ e → climb ps n d k = climb ps n e k := by
  intro d
  induction d with
  | zero =>
    intro e k hl h1 h2
    obtain rfl : k = 0 := by omega
    cases e with
    | zero => rfl
    | succ e => simp [climb]
  | succ d ih =>
    intro e k hl h1 h2
    cases e with
    | zero =>
      obtain rfl : k = 0 := by omega
      simp [climb]
    | succ e =>
      rw [climb, climb]
      split
      · rename_i hnk
        have := pOkB_par hp hl (by omega)
        exact ih (by omega) (by omega) (by omega)
      · rfl
theorem climb_step {ps : List Int} (hp : pOkB ps = true) {n k : Nat} (hk : k < ps.length) (hn : n < k) : climb ps n k k = climb ps n (gi ps k).toNat (gi ps k).toNat := by
  have h1 := pOkB_par hp hk (by omega)
  obtain ⟨m, rfl⟩ : ∃ m, k = m + 1 := ⟨k - 1, by omega⟩
  rw [climb, if_pos hn]
  exact climb_fuel hp n (by omega) (by omega) (Nat.le_refl _)
theorem climb_stop {ps : List Int} {n k : Nat} (hn : ¬ n < k) : climb ps n k k = k := by
  cases k with
  | zero => rfl
  | succ k => rw [climb, if_neg hn]

/-- Node j lies below i: it is i, or lies below a child of i. -/
theorem hit_self {ps : List Int} (i : Nat) : hitB ps i i = true := by unfold hitB; rw [climb_stop (by omega)]; simp
theorem hit_le {ps : List Int} (_ : pOkB ps = true) {i : Nat} : ∀ {j : Nat}, j < ps.length → hitB ps i j = true → i ≤ j := by
  intro j
  induction j using Nat.strongRecOn with
  | ind j ih =>
    intro hj h
    by_cases e : i < j
    · omega
    · unfold hitB at h
      rw [climb_stop e] at h
      have : j = i := by simpa using h
      omega
theorem hit_step {ps : List Int} (hp : pOkB ps = true) {i j : Nat} (hj : j < ps.length) (hi : i < j) : hitB ps i j = hitB ps i (gi ps j).toNat := by
  unfold hitB; rw [climb_step hp hj hi]
theorem hit_kid {ps : List Int} (hp : pOkB ps = true) {i : Nat} : ∀ {j : Nat}, j < ps.length → (hitB ps i j = true ↔ j = i ∨ ∃ c, c < ps.length ∧ i < c ∧ gi ps c = (i : Int) ∧ hitB ps c j = true) := by
  intro j
  induction j using Nat.strongRecOn with
  | ind j ih =>
    intro hj
    by_cases e : i < j
    · have hpar := pOkB_par hp hj (by omega)
      have hpn : ((gi ps j).toNat : Int) = gi ps j := Int.toNat_of_nonneg hpar.1
      have hpl : (gi ps j).toNat < j := by omega
      rw [hit_step hp hj e, ih _ hpl (by omega)]
      constructor
      · rintro (h | ⟨c, h1, h2, h3, h4⟩)
        · exact .inr ⟨j, hj, e, by omega, hit_self j⟩
        · have := hit_le hp (show (gi ps j).toNat < ps.length by omega) h4
          exact .inr ⟨c, h1, h2, h3, by rw [hit_step hp hj (by omega)]; exact h4⟩
      · rintro (h | ⟨c, h1, h2, h3, h4⟩)
        · omega
        · have hcj := hit_le hp hj h4
          by_cases ec : c = j
          · subst ec; left; omega
          · right
            exact ⟨c, h1, h2, h3, by rw [hit_step hp hj (by omega)] at h4; exact h4⟩
    · unfold hitB
      rw [climb_stop e]
      constructor
      · intro h; left; simpa using h
      · rintro (h | ⟨c, h1, h2, h3, h4⟩)
        · simpa using h
        · have := hit_le hp hj h4; omega
mutual
/-- Below the i-th node lie the nodes of its part, and no others. -/
theorem psR_int : ∀ (r : RT) (n : Nat) (p : Int) (i : Nat) (s : RT), (subR r)[i]? = some s → i + sizeR s ≤ sizeR r ∧ (∀ j, i < j → j < i + sizeR s → ((n + i : Nat) : Int) ≤ gi (psR r n p) j) ∧ (∀ j, i + sizeR s ≤ j → j < sizeR r → gi (psR r n p) j < ((n + i : Nat) : Int) ∨ ((n + i + sizeR s : Nat) : Int) ≤ gi (psR r n p) j) ∧ (nsR r).drop i = nsR s ++ (nsR r).drop (i + sizeR s)
  | .node nm ks, n, p, 0, s, h => by
    rw [subR] at h
    obtain rfl : RT.node nm ks = s := by simpa using h
    refine ⟨by omega, fun j h1 h2 => ?_, fun j h1 h2 => by omega, ?_⟩
    · have := (psR_gi (.node nm ks) n p j h1 (by omega)).1; omega
    · rw [Nat.zero_add, ← nsR_len, List.drop_length, List.append_nil]; rfl
  | .node nm ks, n, p, i + 1, s, h => by
    rw [subR, List.getElem?_cons_succ] at h
    obtain ⟨h1, h2, h3, h4⟩ := psRs_int ks n (n + 1) i s (by omega) h
    have hg : ∀ j, gi (psR (.node nm ks) n p) (j + 1) = gi (psRs ks n (n + 1)) j := fun j => by rw [psR]; simp [gi]
    refine ⟨by rw [sizeR]; omega, fun j a b => ?_, fun j a b => ?_, ?_⟩
    · obtain ⟨m, rfl⟩ : ∃ m, j = m + 1 := ⟨j - 1, by omega⟩
      rw [hg]
      have := h2 m (by omega) (by omega); omega
    · obtain ⟨m, rfl⟩ : ∃ m, j = m + 1 := ⟨j - 1, by omega⟩
      rw [hg]
      rw [sizeR] at b
      have := h3 m (by omega) (by omega); omega
    · rw [nsR, List.drop_succ_cons, show i + 1 + sizeR s = (i + sizeR s) + 1 by omega, List.drop_succ_cons]; exact h4
theorem psRs_int : ∀ (rs : List RT) (own n : Nat) (i : Nat) (s : RT), own < n → (subRs rs)[i]? = some s → i + sizeR s ≤ sizeRs rs ∧ (∀ j, i < j → j < i + sizeR s → ((n + i : Nat) : Int) ≤ gi (psRs rs own n) j) ∧ (∀ j, i + sizeR s ≤ j → j < sizeRs rs → gi (psRs rs own n) j < ((n + i : Nat) : Int) ∨ ((n + i + sizeR s : Nat) : Int) ≤ gi (psRs rs own n) j) ∧ (nsRs rs).drop i = nsR s ++ (nsRs rs).drop (i + sizeR s)
  | [], _, _, _, _, _, h => by simp [subRs] at h
  | r :: rs, own, n, i, s, ho, h => by
    rw [subRs] at h
    have hlr := psR_len r n own
    have hsl := subR_len r
    have hnl := nsR_len r
    by_cases e : i < sizeR r
    · rw [List.getElem?_append_left (by omega)] at h
      obtain ⟨h1, h2, h3, h4⟩ := psR_int r n own i s h
      refine ⟨by rw [sizeRs]; omega, fun j a b => ?_, fun j a b => ?_, ?_⟩
      · rw [psRs, gi_app_l _ (by omega)]; exact h2 j a b
      · by_cases ej : j < sizeR r
        · rw [psRs, gi_app_l _ (by omega)]; exact h3 j a ej
        · obtain ⟨m, rfl⟩ : ∃ m, j = sizeR r + m := ⟨j - sizeR r, by omega⟩
          rw [sizeRs] at b
          have hg : gi (psRs (r :: rs) own n) (sizeR r + m) = gi (psRs rs own (n + sizeR r)) m := by rw [psRs, ← hlr]; exact gi_app_r _ _ _
          rw [hg]
          have hm : gi (psRs rs own (n + sizeR r)) m ∈ psRs rs own (n + sizeR r) := by
            have : m < (psRs rs own (n + sizeR r)).length := by rw [psRs_len]; omega
            simp [gi, this]
          rcases psRs_bd rs own (n + sizeR r) _ hm with q | ⟨q, _⟩
          · left; omega
          · right; omega
      · rw [nsRs, List.drop_append_of_le_length (by omega), h4, List.append_assoc, List.drop_append_of_le_length (by omega)]
    · rw [List.getElem?_append_right (by omega), hsl] at h
      obtain ⟨h1, h2, h3, h4⟩ := psRs_int rs own (n + sizeR r) (i - sizeR r) s (by omega) h
      have hg : ∀ m, gi (psRs (r :: rs) own n) (sizeR r + m) = gi (psRs rs own (n + sizeR r)) m := fun m => by rw [psRs, ← hlr]; exact gi_app_r _ _ _
      refine ⟨by rw [sizeRs]; omega, fun j a b => ?_, fun j a b => ?_, ?_⟩
      · obtain ⟨m, rfl⟩ : ∃ m, j = sizeR r + m := ⟨j - sizeR r, by omega⟩
        rw [hg]
        have := h2 m (by omega) (by omega); omega
      · obtain ⟨m, rfl⟩ : ∃ m, j = sizeR r + m := ⟨j - sizeR r, by omega⟩
        rw [hg]
        rw [sizeRs] at b
        have := h3 m (by omega) (by omega); omega
      · obtain ⟨q, rfl⟩ : ∃ q, i = sizeR r + q := ⟨i - sizeR r, by omega⟩
        rw [show sizeR r + q - sizeR r = q by omega] at h4
        have hd : ∀ q, (nsRs (r :: rs)).drop (sizeR r + q) = (nsRs rs).drop q := fun q => by
          rw [nsRs, ← hnl, ← List.drop_drop, List.drop_left']; rfl
        rw [hd, h4, show sizeR r + q + sizeR s = sizeR r + (q + sizeR s) by omega, hd]
end
theorem hit_flat {r : RT} {i : Nat} {s : RT} (h : (subR r)[i]? = some s) : ∀ {j : Nat}, j < sizeR r → hitB (flat r).ps i j = decide (i ≤ j ∧ j < i + sizeR s) := by
  obtain ⟨h1, h2, h3, _⟩ := psR_int r 0 (-1) i s h
  have hp := pOk_flat r
  have hs := sizeR_pos s
  have hl := flat_ps r
  intro j
  induction j using Nat.strongRecOn with
  | ind j ih =>
    intro hj
    by_cases e : i < j
    · have hpar := pOkB_par hp (show j < (flat r).ps.length by omega) (by omega)
      rw [hit_step hp (by omega) e, ih _ (by omega) (by omega)]
      have hps : (flat r).ps = psR r 0 (-1) := rfl
      rw [hps] at hpar ⊢
      by_cases e2 : j < i + sizeR s
      · have := h2 j e e2
        rw [decide_eq_true (by omega), decide_eq_true (by omega)]
      · have := h3 j (by omega) hj
        rw [decide_eq_false (by omega), decide_eq_false (by omega)]
    · unfold hitB
      rw [climb_stop e]
      by_cases e2 : j = i
      · subst e2; rw [decide_eq_true rfl, decide_eq_true (by omega)]
      · rw [decide_eq_false e2, decide_eq_false (by omega)]
/-- The names of one letter among names, as numbers. -/
def oneN (l : List ByteArray) : List Int := (l.filter fun s => decide (s.size = 1)).map lvNum
theorem oneN_app (a b : List ByteArray) : oneN (a ++ b) = oneN a ++ oneN b := by unfold oneN; rw [List.filter_append, List.map_append]
theorem lvK_in {r : RT} {i : Nat} {s : RT} (h : (subR r)[i]? = some s) : ∀ m, m ≤ sizeR s → lvK (flat r) i m = oneN ((nsR s).take m)
  | 0, _ => by simp [lvK, oneN]
  | m + 1, hm => by
    obtain ⟨h1, _, _, h4⟩ := psR_int r 0 (-1) i s h
    have hsl := nsR_len s
    rw [lvK, lvK_in h m (by omega), List.take_succ_eq_append_getElem (show m < (nsR s).length by omega), oneN_app]
    congr 1
    have hh := hit_flat h (show i + m < sizeR r by omega)
    rw [decide_eq_true (by omega)] at hh
    have hg : gs (flat r).ns (i + m) = (nsR s)[m]'(by omega) := by
      have h5 : (nsR r)[i + m]? = (nsR s)[m]? := by
        rw [← List.getElem?_drop, h4, List.getElem?_append_left (by omega)]
      show (nsR r).getD (i + m) _ = _
      rw [List.getD_eq_getElem?_getD, h5, List.getElem?_eq_getElem (by omega)]; rfl
    unfold lvOne
    rw [hh, hg, Bool.true_and]
    unfold oneN
    by_cases e : ((nsR s)[m]'(by omega)).size = 1
    · rw [if_pos (by simpa using e), List.filter_cons_of_pos (by simpa using e)]; rfl
    · rw [if_neg (by simpa using e), List.filter_cons_of_neg (by simpa using e)]; rfl
theorem lvK_out {r : RT} {i : Nat} {s : RT} (h : (subR r)[i]? = some s) : ∀ m, sizeR s ≤ m → i + m ≤ sizeR r → lvK (flat r) i m = oneN (nsR s)
  | 0, h1, _ => by have := sizeR_pos s; omega
  | m + 1, h1, h2 => by
    by_cases e : sizeR s = m + 1
    · rw [lvK_in h (m + 1) (by omega), List.take_of_length_le (by rw [nsR_len]; omega)]
    · rw [lvK, lvK_out h m (by omega) (by omega)]
      have hh := hit_flat h (show i + m < sizeR r by omega)
      rw [decide_eq_false (by omega)] at hh
      unfold lvOne
      rw [hh]; simp
theorem lvK_flat {r : RT} {i : Nat} {s : RT} (h : (subR r)[i]? = some s) : lvK (flat r) i ((flat r).ps.length - i) = oneN (nsR s) := by
  have h1 := (psR_int r 0 (-1) i s h).1
  have := sizeR_pos s
  rw [flat_ps]
  exact lvK_out h _ (by omega) (by omega)
end Go.Proofs.YtgjcfkadioblfaaGreat
namespace Go.Proofs.YtgjcfkadioblfaaGreat
/-- The map of the first k names. -/
def mpK (names : List ByteArray) : Nat → List (ByteArray × Value)
  | 0 => []
  | k + 1 => putS (mpK names k) (gs names k) (.int .i64 k)
def mpL (names : List ByteArray) : List (ByteArray × Value) := mpK names names.length
theorem mpK_uniq (names : List ByteArray) : ∀ k, UniqS (mpK names k)
  | 0 => List.nodup_nil
  | k + 1 => putS_uniq (mpK_uniq names k) _ _
theorem lookup_putS {l : List (ByteArray × Value)} {k j : ByteArray} {v : Value} : (putS l k v).lookup j = if j = k then some v else l.lookup j := by
  unfold putS
  split
  · rename_i h
    have h0 : l.lookup k = none := by simpa using h
    rw [List.lookup_append]
    by_cases e : j = k
    · subst e; rw [if_pos rfl, h0]; simp [List.lookup, ba_self]
    · rw [if_neg e]
      have : List.lookup j [(k, v)] = none := by simp [List.lookup, ba_ne e]
      rw [this]; simp
  · rename_i h
    have h0 : (l.lookup k).isSome := by
      cases hl : l.lookup k with
      | none => rw [hl] at h; exact absurd rfl h
      | some x => rfl
    clear h
    induction l with
    | nil => cases h0
    | cons y l ih =>
      obtain ⟨y1, y2⟩ := y
      rw [List.map_cons]
      by_cases e1 : y1 = k
      · subst e1
        rw [if_pos rfl, List.lookup_cons]
        by_cases e : j = y1
        · subst e; rw [ba_self, if_pos rfl]
        · rw [ba_ne e, if_neg e, List.lookup_cons, ba_ne e]
          have hm : ∀ l : List (ByteArray × Value), List.lookup j (l.map fun x => if x.1 = y1 then (y1, v) else x) = List.lookup j l := by
            intro l
            induction l with
            | nil => rfl
            | cons z l ihl =>
              obtain ⟨z1, z2⟩ := z
              rw [List.map_cons]
              by_cases ez : z1 = y1
              · subst ez; rw [if_pos rfl, List.lookup_cons, ba_ne e, List.lookup_cons, ba_ne e]; exact ihl
              · rw [if_neg ez, List.lookup_cons, List.lookup_cons, ihl]
          exact hm l
      · rw [if_neg e1, List.lookup_cons, List.lookup_cons]
        rw [List.lookup_cons, ba_ne (fun h => e1 h.symm)] at h0
        by_cases e : j = y1
        · subst e; rw [ba_self, if_neg e1]
        · rw [ba_ne e]; exact ih h0
theorem mpK_len (names : List ByteArray) : ∀ k, (mpK names k).length ≤ k
  | 0 => Nat.le_refl _
  | k + 1 => by
    have h := mpK_len names k
    rw [mpK]; unfold putS
    split
    · simp; omega
    · simp; omega
/-- What the map says of a name. -/
theorem mpK_val {names : List ByteArray} {s : ByteArray} {v : Value} : ∀ {k : Nat}, (mpK names k).lookup s = some v → ∃ q, q < k ∧ v = .int .i64 (q : Nat) ∧ gs names q = s ∧ ∀ j, q < j → j < k → gs names j ≠ s
  | 0, h => by cases h
  | k + 1, h => by
    rw [mpK, lookup_putS] at h
    by_cases e : s = gs names k
    · rw [if_pos e] at h
      injection h with h
      exact ⟨k, by omega, h.symm, e.symm, fun j h1 h2 => by omega⟩
    · rw [if_neg e] at h
      obtain ⟨q, h1, h2, h3, h4⟩ := mpK_val h
      exact ⟨q, by omega, h2, h3, fun j h5 h6 => if ej : j = k then by subst ej; exact fun e2 => e e2.symm else h4 j h5 (by omega)⟩
theorem mpK_some {names : List ByteArray} {s : ByteArray} : ∀ {k : Nat}, ((mpK names k).lookup s).isSome = true ↔ ∃ q, q < k ∧ gs names q = s
  | 0 => by simp [mpK]
  | k + 1 => by
    rw [mpK, lookup_putS]
    by_cases e : s = gs names k
    · rw [if_pos e]; simp only [Option.isSome_some, true_iff]; exact ⟨k, by omega, e.symm⟩
    · rw [if_neg e, mpK_some]
      constructor
      · rintro ⟨q, h1, h2⟩; exact ⟨q, by omega, h2⟩
      · rintro ⟨q, h1, h2⟩
        exact ⟨q, by rcases Nat.lt_or_ge q k with h | h
                     · exact h
                     · obtain rfl : q = k := by omega
                       exact absurd h2.symm e, h2⟩
/-- The map has as many entries as there are names exactly if no name stands twice. -/
theorem mpK_nodup {names : List ByteArray} : ∀ {k : Nat}, (mpK names k).length = k ↔ ∀ i j, i < j → j < k → gs names i ≠ gs names j
  | 0 => by simp [mpK]
  | k + 1 => by
    have hl := mpK_len names k
    have ih := mpK_nodup (names := names) (k := k)
    rw [mpK]; unfold putS
    cases hlk : (mpK names k).lookup (gs names k) with
    | none =>
      have hno : ∀ q, q < k → gs names q ≠ gs names k := fun q hq e => by
        have := (mpK_some (names := names) (s := gs names k) (k := k)).2 ⟨q, hq, e⟩
        rw [hlk] at this; cases this
      simp only [Option.isNone_none, if_true, List.length_append, List.length_cons, List.length_nil]
      constructor
      · intro h i j h1 h2
        by_cases ej : j = k
        · subst ej; exact hno i h1
        · exact ih.1 (by omega) i j h1 (by omega)
      · intro h
        rw [ih.2 (fun i j h1 h2 => h i j h1 (by omega))]
    | some x =>
      obtain ⟨q, h1, _, h3, _⟩ := mpK_val hlk
      simp only [Option.isNone_some, Bool.false_eq_true, if_false, List.length_map]
      constructor
      · intro h; omega
      · intro h; exact absurd h3 (h q k h1 (by omega))
/-- A leaf's name is no name, or a name stands twice. -/
def csBad (t : Tre) (names : List ByteArray) (j : Nat) : Bool := !((mpL names).lookup (gs t.ns (gi (leavesL t.ns) j).toNat)).isSome || decide ((mpL names).length ≠ names.length)
def conErr (t : Tre) (names : List ByteArray) (l : List Grp) : Int :=
  if treeErr t ≠ 0 then 1 else if (leavesL t.ns).length ≠ names.length then 9 else if (List.range (leavesL t.ns).length).any (csBad t names) then 9
  else if gcErr l ≠ 0 then gcErr l else if farB l names.length then 2 else 0
/-- The number of a name. -/
def nmIx (names : List ByteArray) (s : ByteArray) : Nat := match (mpL names).lookup s with
  | some (.int _ q) => q.toNat
  | _ => 0
/-- The sets behind node n's round. -/
def ownStep (t : Tre) (num : ByteArray → Nat) (n : Nat) (o : List Nat) : List Nat :=
  if 0 ≤ gi t.ps n then
    (if (gs t.ns n).size ≠ 0 then o.set n (gn o n ||| 2 ^ num (gs t.ns n)) else o).set (gi t.ps n).toNat
      (gn (if (gs t.ns n).size ≠ 0 then o.set n (gn o n ||| 2 ^ num (gs t.ns n)) else o) (gi t.ps n).toNat ||| gn (if (gs t.ns n).size ≠ 0 then o.set n (gn o n ||| 2 ^ num (gs t.ns n)) else o) n)
  else if (gs t.ns n).size ≠ 0 then o.set n (gn o n ||| 2 ^ num (gs t.ns n)) else o
def ownD (t : Tre) (num : ByteArray → Nat) : Nat → List Nat → List Nat
  | 0, o => o
  | n + 1, o => ownD t num n (ownStep t num n o)
/-- The sets of leaves below all nodes. -/
def ownF (t : Tre) (names : List ByteArray) : List Nat := ownD t (nmIx names) t.ps.length (List.replicate t.ps.length 0)
def conOne (t : Tre) (names : List ByteArray) (l : List Grp) (k : Nat) : List Int := if ofS (gg l k).src ∈ ownF t names then [] else [(k : Int)]
def conK (t : Tre) (names : List ByteArray) (l : List Grp) : Nat → List Int
  | 0 => []
  | k + 1 => conK t names l k ++ conOne t names l k
def conL (t : Tre) (names : List ByteArray) (l : List Grp) : List Int := if conErr t names l ≠ 0 then [] else conK t names l l.length
theorem conK_len (t : Tre) (names : List ByteArray) (l : List Grp) : ∀ k, (conK t names l k).length ≤ k
  | 0 => Nat.le_refl _
  | k + 1 => by
    have h := conK_len t names l k
    rw [conK, List.length_append]; unfold conOne; split <;> simp <;> omega
theorem ownStep_len (t : Tre) (num : ByteArray → Nat) (n : Nat) (o : List Nat) : (ownStep t num n o).length = o.length := by
  unfold ownStep
  split
  · rw [List.length_set]; split
    · rw [List.length_set]
    · rfl
  · split
    · rw [List.length_set]
    · rfl
theorem ownD_len (t : Tre) (num : ByteArray → Nat) : ∀ (n : Nat) (o : List Nat), (ownD t num n o).length = o.length
  | 0, _ => rfl
  | n + 1, o => by rw [ownD, ownD_len t num n, ownStep_len]
/-- What an accepted list of names has. -/
theorem conErr_zero {t : Tre} {names : List ByteArray} {l : List Grp} (h : conErr t names l = 0) : treeErr t = 0 ∧ (leavesL t.ns).length = names.length ∧ (∀ j, j < (leavesL t.ns).length → csBad t names j = false) ∧ gcErr l = 0 ∧ farB l names.length = false := by
  unfold conErr at h
  split at h
  · cases h
  · rename_i h1
    split at h
    · cases h
    · rename_i h2
      split at h
      · cases h
      · rename_i h3
        split at h
        · rename_i h4; exact absurd h h4
        · rename_i h4
          split at h
          · cases h
          · rename_i h5
            have h3 : ((List.range (leavesL t.ns).length).any (csBad t names)) = false := by simpa using h3
            exact ⟨Classical.not_not.1 h1, Classical.not_not.1 h2, fun j hj => any_false h3 hj, Classical.not_not.1 h4, by simpa using h5⟩
theorem nmIx_at {names : List ByteArray} {s : ByteArray} (h : ((mpL names).lookup s).isSome = true) : (mpL names).lookup s = some (.int .i64 (nmIx names s : Nat)) ∧ nmIx names s < names.length ∧ gs names (nmIx names s) = s := by
  cases hl : (mpL names).lookup s with
  | none => rw [hl] at h; cases h
  | some v =>
    obtain ⟨q, h1, h2, h3, _⟩ := mpK_val hl
    subst h2
    have : nmIx names s = q := by unfold nmIx; rw [hl]; simp
    rw [this]; exact ⟨rfl, h1, h3⟩
end Go.Proofs.YtgjcfkadioblfaaGreat
namespace Go.Proofs.YtgjcfkadioblfaaGreat
/-- Below the root: a leaf, or the part of a set. -/
theorem subs_grow (names : List ByteArray) (inner : List Nat) : ∀ (d x : Nat) (q : RT), (∀ y ∈ inner, U64 y) → U64 x → x < d → q ∈ subRs (growR names inner d x).kids →
    (∃ i, i < names.length ∧ q = .node (gs names i) []) ∨ ∃ y e, y ∈ inner ∧ y < e ∧ q = growR names inner e y
  | 0, _, _, _, _, h, _ => by omega
  | d + 1, x, q, hu, hx, hd, h => by
    rw [growR] at h
    have h : q ∈ subRs ((kidsX inner x).map (growR names inner d) ++ leavesN names (leftX inner x) names.length) := h
    rw [subRs_flat, List.flatMap_append, List.mem_append] at h
    rcases h with h | h
    · obtain ⟨k, hk, hq⟩ := List.mem_flatMap.1 h
      obtain ⟨y, hy, rfl⟩ := List.mem_map.1 hk
      obtain ⟨hy1, hy2⟩ := List.mem_filter.1 hy
      have hlt := isKid_lt hx (hu y hy1) hy2
      cases hg : growR names inner d y with
      | node nm ks =>
        rw [hg, subR, List.mem_cons] at hq
        rcases hq with rfl | hq
        · exact .inr ⟨y, d, hy1, by omega, hg.symm⟩
        · refine subs_grow names inner d y q hu (hu y hy1) (by omega) ?_
          rw [hg]; exact hq
    · obtain ⟨k, hk, hq⟩ := List.mem_flatMap.1 h
      unfold leavesN at hk
      obtain ⟨i, hi, rfl⟩ := List.mem_map.1 hk
      have hi2 : i < names.length := List.mem_range.1 (List.mem_filter.1 hi).1
      unfold leafN at hq
      rw [subR, subRs] at hq
      exact .inl ⟨i, hi2, by simpa using hq⟩
theorem withinB_trans {a b c : Nat} (ha : U64 a) (hb : U64 b) (hc : U64 c) (h1 : withinB a b = true) (h2 : withinB b c = true) : withinB a c = true :=
  (withinB_iff ha hc).2 fun i hi => (withinB_iff hb hc).1 h2 i ((withinB_iff ha hb).1 h1 i hi)
/-- A set within x, and not x, lies within a child of x. -/
theorem kid_above {inner : List Nat} {x : Nat} (hu : ∀ y ∈ inner, U64 y) (hx : U64 x) : ∀ (m y : Nat), x - y ≤ m → y ∈ inner → withinB y x = true → y ≠ x → ∃ z ∈ kidsX inner x, withinB y z = true := by
  intro m
  induction m with
  | zero =>
    intro y hm hy hw hne
    have := within_le (hu y hy) hx hw
    omega
  | succ m ih =>
    intro y hm hy hw hne
    by_cases hk : isKid inner x y = true
    · exact ⟨y, List.mem_filter.2 ⟨hy, hk⟩, (withinB_iff (hu y hy) (hu y hy)).2 fun _ h => h⟩
    · unfold isKid at hk
      rw [decide_eq_true hne, hw, Bool.true_and, Bool.true_and] at hk
      have hk : ((List.range inner.length).any fun j => midB x y (gn inner j)) = true := by simpa using hk
      obtain ⟨j, hj, hmid⟩ := List.any_eq_true.1 hk
      have hj : j < inner.length := List.mem_range.1 hj
      have hz := gn_mem hj
      generalize gn inner j = z at *
      unfold midB at hmid
      simp only [Bool.and_eq_true, decide_eq_true_eq] at hmid
      obtain ⟨⟨⟨a1, a2⟩, a3⟩, a4⟩ := hmid
      have h1 := within_le (hu y hy) (hu z hz) a4
      have h2 := within_le (hu z hz) hx a3
      obtain ⟨q, hq, hzq⟩ := ih z (by omega) hz a3 a1
      exact ⟨q, hq, withinB_trans (hu y hy) (hu z hz) (hu q (List.mem_filter.1 hq).1) a4 hzq⟩
/-- Each set has a part. -/
theorem set_part {names : List ByteArray} {inner : List Nat} (hu : ∀ y ∈ inner, U64 y) : ∀ (d x y : Nat), x < d → U64 x → y ∈ inner → withinB y x = true → ∃ e, y < e ∧ growR names inner e y ∈ subR (growR names inner d x)
  | 0, _, _, h, _, _, _ => by omega
  | d + 1, x, y, hd, hx, hy, hw => by
    by_cases e : y = x
    · subst e
      refine ⟨d + 1, hd, ?_⟩
      rw [growR, subR]; simp
    · obtain ⟨z, hz, hyz⟩ := kid_above hu hx _ y (Nat.le_refl _) hy hw e
      obtain ⟨hz1, hz2⟩ := List.mem_filter.1 hz
      have hlt := isKid_lt hx (hu z hz1) hz2
      obtain ⟨f, hf, hm⟩ := set_part (names := names) hu d z y (by omega) (hu z hz1) hy hyz
      refine ⟨f, hf, ?_⟩
      rw [growR, subR]
      refine List.mem_cons_of_mem _ ?_
      rw [subRs_flat, List.flatMap_append, List.mem_append]
      exact .inl (List.mem_flatMap.2 ⟨_, List.mem_map.2 ⟨z, hz, rfl⟩, hm⟩)
theorem leaf_part {r : RT} {nm : ByteArray} (h : ∀ s ∈ subR r, PartOk s) (hn : nm ∈ leafR r) : .node nm [] ∈ subR r := by
  obtain ⟨h1, h2⟩ := List.mem_filter.1 hn
  rw [nsR_sub] at h1
  obtain ⟨s, hs, hsn⟩ := List.mem_map.1 h1
  have h3 := (h s hs).1
  cases s with
  | node m ks =>
    have hm : m = nm := hsn
    subst hm
    cases ks with
    | nil => exact hs
    | cons k ks =>
      have := h3 (by simp [RT.kids])
      have h2 : m.size ≠ 0 := by simpa using h2
      exact absurd this h2
/-- A sorted list of sources is the list of the bits of its set. -/
theorem src_bits {l : List Int} {n : Nat} (h : srcOk l = true) (hn : ∀ x ∈ l, x < n) : l = (bitsN n (ofS l)).map Int.ofNat := by
  obtain ⟨hs, _, hm⟩ := srcOk_small h
  have asc : ∀ k, k < l.length → ∀ j, j < k → gi l j < gi l k := by
    intro k
    induction k with
    | zero => intro _ j hj; omega
    | succ k ih =>
      intro hk j hj
      have h1 := hm (k + 1) (by omega) hk
      rw [Nat.add_sub_cancel] at h1
      by_cases e : j = k
      · subst e; exact h1
      · have := ih (by omega) j (by omega); omega
  have p1 : l.Pairwise (· < ·) := by
    rw [List.pairwise_iff_getElem]
    intro i j hi hj hij
    have := asc j hj i hij
    simpa [gi, hi, hj] using this
  have p2 : ((bitsN n (ofS l)).map Int.ofNat).Pairwise (· < ·) := by
    rw [List.pairwise_map]
    refine (List.Pairwise.filter _ List.pairwise_lt_range).imp fun h => ?_
    exact Int.ofNat_lt.2 h
  have hmem : ∀ x, x ∈ l ↔ x ∈ (bitsN n (ofS l)).map Int.ofNat := by
    intro x
    constructor
    · intro hx
      obtain ⟨i, rfl, _⟩ := small_mem hs hx
      exact List.mem_map.2 ⟨i, mem_bitsN.2 ⟨by have := hn _ hx; omega, (testBit_ofS hs i).2 hx⟩, rfl⟩
    · intro hx
      obtain ⟨i, hi, rfl⟩ := List.mem_map.1 hx
      exact (testBit_ofS hs i).1 (mem_bitsN.1 hi).2
  have nd : ∀ {q : List Int}, q.Pairwise (· < ·) → q.Nodup := fun h => h.imp fun h => by omega
  have hp : l.Perm ((bitsN n (ofS l)).map Int.ofNat) := (List.perm_ext_iff_of_nodup (nd p1) (nd p2)).2 hmem
  exact List.Perm.eq_of_pairwise (le := fun a b : Int => a < b) (fun a b _ _ h1 h2 => by omega) p1 p2 hp
theorem bits_asc (n x : Nat) : (bitsN n x).Pairwise (· < ·) := List.Pairwise.filter _ List.pairwise_lt_range
end Go.Proofs.YtgjcfkadioblfaaGreat
