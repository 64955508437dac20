/- Maps whose keys are strings. Rose trees: the tree of a forest below a node is the rose tree, numbered depth first. Sorted rose trees; the rose tree of a tree numbered depth first is the tree again. -/
import Derived.Test.YtcbmbhghmfehpaaGreatQ7
import Derived.Test.YtcbmbhghmfehpaaGreatQ12
namespace Go.Proofs.YtcbmbhghmfehpaaGreat
open Go.RowKit Go.Deep
/-- The entries behind 'm[k] = v'. -/
def putS (l : List (ByteArray × Value)) (k : ByteArray) (v : Value) : List (ByteArray × Value) := if (l.lookup k).isNone then l ++ [(k, v)] else l.map fun x => if x.1 = k then (k, v) else x
/-- The map at block b holds the entries l. -/
def SMap (w : World) (b : Nat) (l : List (ByteArray × Value)) : Prop := ∃ es clock, w.heap[b]? = some (.map es clock) ∧ es.toList.map (fun x => (x.key, x.val)) = l.map (fun x => (Value.string x.1, x.2))
def UniqS (l : List (ByteArray × Value)) : Prop := (l.map (·.1)).Nodup
theorem ba_beq (a b : ByteArray) : (a == b) = decide (a = b) := by
  obtain ⟨a⟩ := a
  obtain ⟨b⟩ := b
  have : ((⟨a⟩ : ByteArray) == ⟨b⟩) = (a == b) := rfl
  rw [this]
  by_cases h : a = b
  · subst h; simp
  · have h2 : ¬ (⟨a⟩ : ByteArray) = ⟨b⟩ := fun e => h (ByteArray.mk.inj e)
    rw [decide_eq_false h2]; simpa using h
theorem ba_self (a : ByteArray) : (a == a) = true := by rw [ba_beq]; simp
theorem ba_ne {a b : ByteArray} (h : ¬ a = b) : (a == b) = false := by rw [ba_beq]; simpa using h
section
variable {P : Program} {w : World}
theorem findNow_s (k : ByteArray) : ∀ (es : List MapEntry) (l : List (ByteArray × Value)) (i : Nat),
    es.map (fun x => (x.key, x.val)) = l.map (fun x => (Value.string x.1, x.2)) →
      (l.lookup k = none ∧ Instr.findNow .string (.string k) es i = some none) ∨ ∃ j v, l.lookup k = some v ∧ (l[j]?).map (·.1) = some k ∧ Instr.findNow .string (.string k) es i = some (some (i + j, v)) := by
  intro es
  induction es with
  | nil =>
    intro l i hl
    cases l with
    | nil => exact .inl ⟨rfl, rfl⟩
    | cons => cases hl
  | cons x es ih =>
    intro l i hl
    cases l with
    | nil => cases hl
    | cons y l =>
      simp only [List.map_cons, List.cons.injEq, Prod.mk.injEq] at hl
      obtain ⟨⟨h1, h2⟩, h3⟩ := hl
      obtain ⟨y1, y2⟩ := y
      have h1 : x.key = .string y1 := h1
      have h2 : x.val = y2 := h2
      by_cases h : k = y1
      · subst h
        refine .inr ⟨0, y2, by rw [List.lookup_cons, ba_self], rfl, ?_⟩
        simp [Instr.findNow, Instr.sameNow, h1, h2, ba_self]
      · have hb : (k == y1) = false := ba_ne h
        rcases ih l (i + 1) h3 with ⟨h4, h5⟩ | ⟨j, v, h4, h5, h6⟩
        · refine .inl ⟨by rw [List.lookup_cons, hb]; exact h4, ?_⟩
          simp [Instr.findNow, Instr.sameNow, h1, hb, h5]
        · refine .inr ⟨j + 1, v, by rw [List.lookup_cons, hb]; exact h4, by simpa using h5, ?_⟩
          simp [Instr.findNow, Instr.sameNow, h1, hb, h6]; omega
theorem run_findS {t : TypeId} (ht : P.underlying t = some .string) (k : ByteArray) (es : List MapEntry) (l : List (ByteArray × Value)) (hl : es.map (fun x => (x.key, x.val)) = l.map (fun x => (Value.string x.1, x.2))) :
    (l.lookup k = none ∧ (Instr.findKey t (.string k) es).run P w = .ok none w) ∨ ∃ j v, l.lookup k = some v ∧ (l[j]?).map (·.1) = some k ∧ (Instr.findKey t (.string k) es).run P w = .ok (some (j, v)) w := by
  have hu := run_underlying (w := w) ht
  rcases findNow_s k es l 0 hl with ⟨h1, h2⟩ | ⟨j, v, h1, h2, h3⟩
  · exact .inl ⟨h1, by simp [Instr.findKey, hu, h2]⟩
  · exact .inr ⟨j, v, h1, h2, by simp [Instr.findKey, hu, h3]⟩
theorem run_checkS {t : TypeId} (ht : P.underlying t = some .string) (em : Bool) (k : ByteArray) : (Instr.checkKey em 10000 t (.string k)).run P w = .ok () w := by
  have hu := run_underlying (w := w) ht
  show (Instr.checkKey em (9999 + 1) t (.string k)).run P w = _
  unfold Instr.checkKey
  simp [hu]
theorem lookupS_none {l : List (ByteArray × Value)} {k : ByteArray} : l.lookup k = none ↔ k ∉ l.map (·.1) := by
  induction l with
  | nil => simp
  | cons y l ih =>
    obtain ⟨y1, y2⟩ := y
    rw [List.lookup_cons]
    by_cases h : k = y1
    · subst h; simp [ba_self]
    · have hb : (k == y1) = false := ba_ne h
      rw [hb]; simp only [List.map_cons, List.mem_cons, not_or]
      exact ⟨fun h2 => ⟨h, ih.1 h2⟩, fun h2 => ih.2 h2.2⟩
theorem putS_keys (l : List (ByteArray × Value)) (k : ByteArray) (v : Value) : (putS l k v).map (·.1) = if (l.lookup k).isNone then l.map (·.1) ++ [k] else l.map (·.1) := by
  unfold putS
  split
  · simp
  · rw [List.map_map]
    refine List.map_congr_left fun x _ => ?_
    show (if x.1 = k then (k, v) else x).1 = x.1
    split
    · rename_i h; exact h.symm
    · rfl
theorem putS_uniq {l : List (ByteArray × Value)} (h : UniqS l) (k : ByteArray) (v : Value) : UniqS (putS l k v) := by
  unfold UniqS
  rw [putS_keys]
  split
  · rename_i h2
    have h3 : k ∉ l.map (·.1) := lookupS_none.1 (by simpa using h2)
    rw [List.nodup_append]
    refine ⟨h, by simp, fun a ha b hb => ?_⟩
    have : b = k := by simpa using hb
    subst this
    exact fun e => h3 (by rw [← e]; exact ha)
  · exact h
theorem modS_uniq {l : List (ByteArray × Value)} (h : UniqS l) {k : ByteArray} (v : Value) {j : Nat} (hj : (l[j]?).map (·.1) = some k) : (l.map fun x => if x.1 = k then (k, v) else x) = l.set j (k, v) := by
  apply List.ext_getElem?
  intro m
  have hjl : j < l.length := by
    cases hlj : l[j]? with
    | none => rw [hlj] at hj; cases hj
    | some y => exact (List.getElem?_eq_some_iff.1 hlj).1
  rw [List.getElem?_map, List.getElem?_set]
  by_cases e : j = m
  · subst e
    rw [if_pos rfl, if_pos hjl]
    rw [List.getElem?_eq_getElem hjl] at hj ⊢
    have h3 : (l[j]).1 = k := by simpa using hj
    simp [h3]
  · rw [if_neg e]
    cases hm : l[m]? with
    | none => rfl
    | some y =>
      have hml := (List.getElem?_eq_some_iff.1 hm).1
      have hne : y.1 ≠ k := fun h4 => by
        have h5 : (l.map (·.1))[m]? = (l.map (·.1))[j]? := by rw [List.getElem?_map, List.getElem?_map, hm, hj]; simp [h4]
        have h6 : m < (l.map (·.1)).length := by simpa using hml
        have h7 : j < (l.map (·.1)).length := by simpa using hjl
        rw [List.getElem?_eq_getElem h6, List.getElem?_eq_getElem h7] at h5
        injection h5 with h5
        exact e ((List.getElem_inj h).1 h5).symm
      simp [hne]
theorem SMap.made (w : World) : SMap (w.alloc (.map #[] 0)) w.heap.size [] := ⟨#[], 0, (MapKept.heap_alloc w _).1, rfl⟩
theorem SMap.same {w' : World} {b : Nat} {l : List (ByteArray × Value)} (h : SMap w b l) (hb : w'.heap[b]? = w.heap[b]?) : SMap w' b l := by
  obtain ⟨es, clock, h1, h2⟩ := h
  exact ⟨es, clock, hb.trans h1, h2⟩
theorem SMap.lt {b : Nat} {l : List (ByteArray × Value)} (h : SMap w b l) : b < w.heap.size := by
  obtain ⟨es, clock, h1, _⟩ := h
  exact (Array.getElem?_eq_some_iff.1 h1).1
/-- 'm[k] = v'. -/
theorem run_sset {mt t el : TypeId} (hm : P.underlying mt = some (.map t el)) (ht : P.underlying t = some .string) {b : Nat} {l : List (ByteArray × Value)} (h : SMap w b l) (hq : UniqS l) (k : ByteArray) (v : Value) :
    ∃ w', (Instr.mapUpdate mt (.map (some b)) (.string k) v).run P w = .ok () w' ∧ SMap w' b (putS l k v) ∧ w'.heap.size = w.heap.size ∧ w'.os = w.os ∧ w'.tape = w.tape ∧ w'.output = w.output ∧ ∀ j, j ≠ b → w'.heap[j]? = w.heap[j]? := by
  obtain ⟨es, clock, hb, hl⟩ := h
  have hu := run_underlying (w := w) hm
  have hg := MapKept.run_getObj_map (P := P) hb
  have hbl := (Array.getElem?_eq_some_iff.1 hb).1
  rcases run_findS (w := w) ht k es.toList l hl with ⟨h1, h2⟩ | ⟨j, v', h1, h5, h2⟩
  · have hs := MapKept.run_setObj_map (P := P) (.map (es.push { key := .string k, val := v, born := clock }) (clock + 1)) hb
    refine ⟨{ w with heap := w.heap.setIfInBounds b (.map (es.push { key := .string k, val := v, born := clock }) (clock + 1)) }, by simp [Instr.mapUpdate, hu, hg, run_checkS ht, h2, hs], ⟨es.push { key := .string k, val := v, born := clock }, clock + 1, by simp [hbl], ?_⟩, by simp, rfl, rfl, rfl, fun j hj => by simp [Ne.symm hj]⟩
    unfold putS; rw [h1]; simp [hl]
  · have hkey : ((es[j]?).map (·.key)) = some (.string k) := by
      have h8 := congrArg (fun q => (q[j]?).map (·.1)) hl
      simp only [List.getElem?_map, Option.map_map] at h8
      have h9 : (l[j]?).map (fun x => Value.string x.1) = some (.string k) := by
        cases hlj : l[j]? with
        | none => rw [hlj] at h5; cases h5
        | some y => rw [hlj] at h5; simp at h5; simp [h5]
      have h10 : (es.toList[j]?).map (·.key) = (l[j]?).map (fun x => Value.string x.1) := h8
      rw [← Array.getElem?_toList, h10, h9]
    have hst : (Instr.keyThatStays (((es[j]?).map (·.key)).getD (.string k)) (.string k)).run P w = .ok (.string k) w := by
      rw [hkey]
      have h0 : Instr.sameBits 10000 (.string k) (.string k) = true := by simp [Instr.sameBits, ba_self]
      show (Instr.keyThatStays (.string k) (.string k)).run P w = _
      unfold Instr.keyThatStays
      rw [if_pos h0]; rfl
    have hs := MapKept.run_setObj_map (P := P) (.map (es.modify j fun e => { e with key := .string k, val := v }) clock) hb
    refine ⟨{ w with heap := w.heap.setIfInBounds b (.map (es.modify j fun e => { e with key := .string k, val := v }) clock) }, by simp [Instr.mapUpdate, hu, hg, run_checkS ht, h2, hst, hs], ⟨es.modify j fun e => { e with key := .string k, val := v }, clock, by simp [hbl], ?_⟩, by simp, rfl, rfl, rfl, fun m hm => by simp [Ne.symm hm]⟩
    have hpl : putS l k v = l.set j (k, v) := by
      unfold putS; rw [h1]
      exact modS_uniq hq v h5
    rw [hpl]
    apply List.ext_getElem?
    intro m
    have h8 := congrArg (fun q => q[m]?) hl
    simp only [List.getElem?_map] at h8
    rw [List.getElem?_map, List.getElem?_map, Array.getElem?_toList, Array.getElem?_modify, List.getElem?_set]
    have hjl : j < l.length := by
      cases hlj : l[j]? with
      | none => rw [hlj] at h5; cases h5
      | some y => exact (List.getElem?_eq_some_iff.1 hlj).1
    have hje : j < es.size := by have := congrArg List.length hl; simp at this; omega
    by_cases e : j = m
    · subst e
      rw [if_pos rfl, if_pos rfl, if_pos hjl, Array.getElem?_eq_getElem hje]
      rfl
    · rw [if_neg e, if_neg e, ← Array.getElem?_toList]; exact h8
/-- 'm[k]'. -/
theorem run_slook {mt t el : TypeId} (hm : P.underlying mt = some (.map t el)) (ht : P.underlying t = some .string) {z : Value} (hz : (zeroValue el).run P w = .ok z w) {b : Nat} {l : List (ByteArray × Value)} (h : SMap w b l) (k : ByteArray) :
    (Instr.lookup mt (.map (some b)) (.string k) false).run P w = .ok ((l.lookup k).getD z) w := by
  obtain ⟨es, clock, hb, hl⟩ := h
  have hu := run_underlying (w := w) hm
  have hg := MapKept.run_getObj_map (P := P) hb
  rcases run_findS (w := w) ht k es.toList l hl with ⟨h1, h2⟩ | ⟨j, v', h1, _, h2⟩
  · simp [Instr.lookup, hu, hg, run_checkS ht, h2, hz, h1]
  · simp [Instr.lookup, hu, hg, run_checkS ht, h2, h1]
end
end Go.Proofs.YtcbmbhghmfehpaaGreat
namespace Go.Proofs.YtcbmbhghmfehpaaGreat
inductive RT where
  | node (nm : ByteArray) (kids : List RT)
namespace RT
def nm : RT → ByteArray | .node n _ => n
def kids : RT → List RT | .node _ k => k
end RT
mutual
def sizeR : RT → Nat
  | .node _ ks => 1 + sizeRs ks
def sizeRs : List RT → Nat
  | [] => 0
  | r :: rs => sizeR r + sizeRs rs
end
mutual
/-- The parents, the node's own number and its parent's given. -/
def psR : RT → Nat → Int → List Int
  | .node _ ks, n, p => p :: psRs ks n (n + 1)
def psRs : List RT → Nat → Nat → List Int
  | [], _, _ => []
  | r :: rs, own, n => psR r n (own : Int) ++ psRs rs own (n + sizeR r)
end
mutual
def nsR : RT → List ByteArray
  | .node nm ks => nm :: nsRs ks
def nsRs : List RT → List ByteArray
  | [] => []
  | r :: rs => nsR r ++ nsRs rs
end
def flat (r : RT) : Tre := ⟨psR r 0 (-1), nsR r⟩
mutual
theorem psR_len : ∀ (r : RT) (n : Nat) (p : Int), (psR r n p).length = sizeR r
  | .node _ ks, n, p => by simp only [psR, sizeR, List.length_cons]; rw [psRs_len ks n (n + 1)]; omega
theorem psRs_len : ∀ (rs : List RT) (own n : Nat), (psRs rs own n).length = sizeRs rs
  | [], _, _ => rfl
  | r :: rs, own, n => by simp only [psRs, sizeRs, List.length_append]; rw [psR_len r n own, psRs_len rs own (n + sizeR r)]
end
mutual
theorem nsR_len : ∀ (r : RT), (nsR r).length = sizeR r
  | .node _ ks => by simp only [nsR, sizeR, List.length_cons]; rw [nsRs_len ks]; omega
theorem nsRs_len : ∀ (rs : List RT), (nsRs rs).length = sizeRs rs
  | [] => rfl
  | r :: rs => by simp only [nsRs, sizeRs, List.length_append]; rw [nsR_len r, nsRs_len rs]
end
/-- The rose tree of a forest below node i, d levels deep. -/
def toRD (F : Frs) : Nat → Nat → RT
  | 0, i => .node (F.nm i) []
  | d + 1, i => .node (F.nm i) ((F.kids i).map (toRD F d))
def toRF (F : Frs) (rk : Nat → Nat) (i : Nat) : RT := toRD F (rk i) i
section
variable {F : Frs} {n : Nat} {rk : Nat → Nat}
theorem toRD_fuel (h : Wf F n rk) : ∀ {d e i : Nat}, i < n → rk i ≤ d → rk i ≤ e → toRD F d i = toRD F e i := by
  intro d
  induction d with
  | zero =>
    intro e i hi hd he
    have hk : F.kids i = [] := by
      cases hk : F.kids i with
      | nil => rfl
      | cons k l => have := (h.kid i hi k (by rw [hk]; simp)).2; omega
    cases e with
    | zero => rfl
    | succ e => simp [toRD, hk]
  | succ d ih =>
    intro e i hi hd he
    cases e with
    | zero =>
      have hk : F.kids i = [] := by
        cases hk : F.kids i with
        | nil => rfl
        | cons k l => have := (h.kid i hi k (by rw [hk]; simp)).2; omega
      simp [toRD, hk]
    | succ e =>
      simp only [toRD]
      congr 1
      refine List.map_congr_left fun k hk => ?_
      have := h.kid i hi k hk
      exact ih this.1 (by omega) (by omega)
theorem toRF_eq (h : Wf F n rk) {i : Nat} (hi : i < n) : toRF F rk i = .node (F.nm i) ((F.kids i).map (toRF F rk)) := by
  have h1 : toRF F rk i = toRD F (rk i + 1) i := toRD_fuel h hi (Nat.le_refl _) (Nat.le_succ _)
  rw [h1]
  simp only [toRD]
  congr 1
  refine List.map_congr_left fun k hk => ?_
  have := h.kid i hi k hk
  exact toRD_fuel h this.1 (by omega) (Nat.le_refl _)
theorem lookup_putI_ne {l : List (Option Nat × Int)} {k j : Option Nat} (v : Int) (h : j ≠ k) : (putI l k v).lookup j = l.lookup j := by
  have hne : (j == k) = false := by simpa using h
  unfold putI
  split
  · induction l with
    | nil => simp [List.lookup, hne]
    | cons x l ih =>
      rename_i hl
      obtain ⟨x1, x2⟩ := x
      rw [List.cons_append, List.lookup_cons, List.lookup_cons]
      cases hx : (j == x1)
      · refine ih ?_
        rw [List.lookup_cons] at hl
        cases hx2 : (k == x1)
        · rw [hx2] at hl; exact hl
        · rw [hx2] at hl; cases hl
      · rfl
  · have key : ∀ q : List (Option Nat × Int), List.lookup j (q.map (fun x => if x.1 = k then (k, v) else x)) = List.lookup j q := by
      intro q
      induction q with
      | nil => rfl
      | cons x l ih =>
        obtain ⟨x1, x2⟩ := x
        rw [List.map_cons, List.lookup_cons]
        by_cases e : x1 = k
        · subst e
          simp only [if_true]
          rw [List.lookup_cons, hne]; exact ih
        · rw [if_neg e, List.lookup_cons]
          cases (j == x1)
          · exact ih
          · rfl
    exact key l
theorem lookup_putI_new {l : List (Option Nat × Int)} {k : Option Nat} (v : Int) (h : l.lookup k = none) : (putI l k v).lookup k = some v := by
  unfold putI
  rw [h]
  simp only [Option.isNone_none, if_true]
  induction l with
  | nil => simp
  | cons x l ih =>
    obtain ⟨x1, x2⟩ := x
    rw [List.lookup_cons] at h
    rw [List.cons_append, List.lookup_cons]
    cases hx : (k == x1)
    · rw [hx] at h; exact ih h
    · rw [hx] at h; cases h
/-- The state of the numbering behind a part of the tree. -/
structure NumTo (s s' : Num) (ps : List Int) (ns : List ByteArray) (nd : List Nat) : Prop where
  ps : s'.ps = s.ps ++ ps
  ns : s'.ns = s.ns ++ ns
  old : ∀ k : Option Nat, (∀ j ∈ nd, k ≠ some j) → s'.mp.lookup k = s.mp.lookup k
theorem num_sub (h : Arb F n rk) {R : Nat} (hR : ∀ i, i < n → rk i ≤ R) : ∀ {d i : Nat} (p : Option Nat) (np : Int) (s : Num), i < n → rk i ≤ d → p ≠ some i → s.mp.lookup p = some np → (∀ j ∈ nodesF F rk i, s.mp.lookup (some j) = none) →
    NumTo s ((seqF F rk i p).foldl (numS F) s) (psR (toRF F rk i) s.ps.length np) (nsR (toRF F rk i)) (nodesF F rk i) := by
  intro d
  induction d with
  | zero =>
    intro i p np s hi hd hp hl hn
    have hk : F.kids i = [] := by
      cases hk : F.kids i with
      | nil => rfl
      | cons k l => have := (h.wf.kid i hi k (by rw [hk]; simp)).2; omega
    rw [seqF_eq h.wf hi, toRF_eq h.wf hi, nodesF_eq h.wf hi, hk]
    have hni := hn i (by rw [nodesF_eq h.wf hi]; simp)
    refine ⟨?_, ?_, fun k hk2 => lookup_putI_ne _ (hk2 i (by simp))⟩
    · show s.ps ++ [((putI s.mp (some i) _).lookup p).getD 0] = _
      rw [lookup_putI_ne _ hp, hl]; rfl
    · rfl
  | succ d ih =>
    intro i p np s hi hd hp hl hn
    rw [seqF_eq h.wf hi, toRF_eq h.wf hi, nodesF_eq h.wf hi]
    have hni := hn i (by rw [nodesF_eq h.wf hi]; simp)
    have hnd := nodesF_nodup h hR hi (Nat.le_refl (rk i))
    rw [nodesF_eq h.wf hi, List.nodup_cons] at hnd
    have key : ∀ (l : List Nat), (∀ k ∈ l, k ∈ F.kids i) → (l.flatMap fun k => nodesF F rk k).Nodup → (∀ k ∈ l, i ∉ nodesF F rk k) → ∀ (s2 : Num) (own : Nat), s2.mp.lookup (some i) = some (own : Int) → (∀ k ∈ l, ∀ j ∈ nodesF F rk k, s2.mp.lookup (some j) = none) →
        NumTo s2 ((l.flatMap fun k => seqF F rk k (some i)).foldl (numS F) s2) (psRs (l.map (toRF F rk)) own s2.ps.length) (nsRs (l.map (toRF F rk))) (l.flatMap fun k => nodesF F rk k) := by
      intro l
      induction l with
      | nil => intro _ _ _ s2 own _ _; exact ⟨by simp [psRs], by simp [nsRs], fun _ _ => rfl⟩
      | cons c l ihl =>
        intro hin hdl hil s2 own ho hno
        have hcc := h.wf.kid i hi c (hin c (by simp))
        rw [List.flatMap_cons, List.foldl_append, List.flatMap_cons]
        rw [List.flatMap_cons, List.nodup_append] at hdl
        have h1 := ih (some i) (own : Int) s2 hcc.1 (by omega) (fun e => by
          injection e with e
          have := hcc.2; rw [e] at this; omega) ho (hno c (by simp))
        have h2 := ihl (fun k hk => hin k (by simp [hk])) hdl.2.1 (fun k hk => hil k (by simp [hk])) ((seqF F rk c (some i)).foldl (numS F) s2) own
          ((h1.old (some i) (fun j hj e => by injection e with e; subst e; exact hil c (by simp) hj)).trans ho)
          (fun k hk j hj => (h1.old (some j) (fun j2 hj2 e => by
            injection e with e; subst e
            exact hdl.2.2 j hj2 j (List.mem_flatMap.2 ⟨k, hk, hj⟩) rfl)).trans (hno k (by simp [hk]) j hj))
        refine ⟨?_, ?_, fun k hk => ?_⟩
        · rw [h2.ps, h1.ps, List.map_cons, psRs, List.append_assoc, List.length_append, psR_len]
        · rw [h2.ns, h1.ns, List.map_cons, nsRs, List.append_assoc]
        · rw [h2.old k (fun j hj => hk j (by simp [hj])), h1.old k (fun j hj => hk j (by simp [hj]))]
    have hin : ∀ k ∈ F.kids i, i ∉ nodesF F rk k := fun k hk hm => hnd.1 (List.mem_flatMap.2 ⟨k, hk, hm⟩)
    have h3 := key (F.kids i) (fun k hk => hk) hnd.2 hin (numS F s (i, p)) s.ps.length (lookup_putI_new _ hni) (fun k hk j hj => by
      show (putI s.mp (some i) _).lookup (some j) = none
      rw [lookup_putI_ne _ (fun e => by injection e with e; subst e; exact hin k hk hj)]
      exact hn j (by rw [nodesF_eq h.wf hi]; exact List.mem_cons_of_mem _ (List.mem_flatMap.2 ⟨k, hk, hj⟩)))
    have hps : (numS F s (i, p)).ps = s.ps ++ [np] := by
      show s.ps ++ [((putI s.mp (some i) _).lookup p).getD 0] = _
      rw [lookup_putI_ne _ hp, hl]; rfl
    rw [List.foldl_cons]
    refine ⟨?_, ?_, fun k hk => ?_⟩
    · rw [h3.ps, hps, psR, List.append_assoc, List.length_append]; rfl
    · rw [h3.ns]
      show (s.ns ++ [F.nm i]) ++ _ = _
      rw [nsR, List.append_assoc]; rfl
    · rw [h3.old k (fun j hj => hk j (by simp [hj]))]
      exact lookup_putI_ne _ (hk i (by simp))
/-- The tree of the forest below i is its rose tree, numbered depth first. -/
theorem treeF_flat (h : Arb F n rk) {R : Nat} (hR : ∀ i, i < n → rk i ≤ R) {i : Nat} (hi : i < n) : treeF F rk i = flat (toRF F rk i) := by
  have h1 := num_sub h hR (d := rk i) none (-1) num0 hi (Nat.le_refl _) (fun e => by cases e) rfl (fun j _ => rfl)
  unfold treeF flat numL
  rw [h1.ps, h1.ns]
  rfl
end
end Go.Proofs.YtcbmbhghmfehpaaGreat
namespace Go.Proofs.YtcbmbhghmfehpaaGreat
/-- The name of the first leaf, depth first. -/
def firstR : RT → ByteArray
  | .node nm [] => nm
  | .node _ (k :: _) => firstR k
def insR (a : RT) : List RT → List RT
  | [] => [a]
  | b :: l => if cmpS (firstR a) (firstR b) ≤ 0 then a :: b :: l else b :: insR a l
mutual
def sortR : RT → RT
  | .node nm ks => .node nm (sortRs ks)
def sortRs : List RT → List RT
  | [] => []
  | r :: rs => insR (sortR r) (sortRs rs)
end
theorem insR_map {f : Nat → ByteArray} {g : Nat → RT} {a : Nat} (ha : firstR (g a) = f a) : ∀ l : List Nat, (∀ k ∈ l, firstR (g k) = f k) → insR (g a) (l.map g) = (insB f a l).map g
  | [], _ => rfl
  | b :: l, h => by
    have hb := h b (by simp)
    rw [List.map_cons, insR, insB, ha, hb]
    unfold leB
    by_cases e : cmpS (f a) (f b) ≤ 0
    · rw [if_pos e, if_pos (by simpa using e)]; rfl
    · rw [if_neg e, if_neg (by simpa using e), insR_map ha l (fun k hk => h k (by simp [hk]))]; rfl
theorem mem_isrt {f : Nat → ByteArray} {l : List Nat} {k : Nat} : k ∈ isrt f l ↔ k ∈ l := by rw [← srtBy_eq]; exact (srtBy_perm f l).mem_iff
theorem sortRs_map {f : Nat → ByteArray} {h : Nat → RT} : ∀ l : List Nat, (∀ k ∈ l, firstR (sortR (h k)) = f k) → sortRs (l.map h) = (isrt f l).map fun k => sortR (h k)
  | [], _ => rfl
  | a :: l, hf => by
    rw [List.map_cons, sortRs, isrt, sortRs_map l (fun k hk => hf k (by simp [hk]))]
    exact insR_map (g := fun k => sortR (h k)) (hf a (by simp)) (isrt f l) (fun k hk => hf k (by simp [mem_isrt.1 hk]))
section
variable {F : Frs} {n : Nat} {rk : Nat → Nat}
theorem Wf.srt (h : Wf F n rk) (p : Nat → Bool) : Wf (F.srt rk p) n rk := ⟨fun i hi k hk => h.kid i hi k ((F.srt_perm rk p i).mem_iff.1 hk)⟩
theorem toRF_srt (h : Wf F n rk) (p : Nat → Bool) : ∀ {d i : Nat}, i < n → rk i ≤ d → (∀ j, subF F rk i j = true → p j = true) → toRF (F.srt rk p) rk i = sortR (toRF F rk i) ∧ firstR (sortR (toRF F rk i)) = lsF F rk i := by
  intro d
  have hkids : ∀ i, p i = true → (F.srt rk p).kids i = srtBy (lsF F rk) (F.kids i) := fun i hp => by
    show (if p i then _ else _ : List Nat) = _
    rw [if_pos hp]
  induction d with
  | zero =>
    intro i hi hd hp
    have hk : F.kids i = [] := by
      cases hk : F.kids i with
      | nil => rfl
      | cons k l => have := (h.kid i hi k (by rw [hk]; simp)).2; omega
    have hk2 : (F.srt rk p).kids i = [] := by rw [hkids i (hp i (subF_self h hi)), hk]; simp [srtBy]
    rw [toRF_eq (h.srt p) hi, toRF_eq h hi, lsF_eq h hi, hk, hk2]
    refine ⟨rfl, ?_⟩
    simp [srtBy, sortR, sortRs, firstR]
  | succ d ih =>
    intro i hi hd hp
    have hk2 := hkids i (hp i (subF_self h hi))
    have key : ∀ k ∈ F.kids i, toRF (F.srt rk p) rk k = sortR (toRF F rk k) ∧ firstR (sortR (toRF F rk k)) = lsF F rk k := fun k hk => by
      have hkk := h.kid i hi k hk
      exact ih hkk.1 (by omega) (fun j hj => hp j (subF_kid h hi hk hj))
    have hs : sortRs ((F.kids i).map (toRF F rk)) = (isrt (lsF F rk) (F.kids i)).map fun k => sortR (toRF F rk k) := sortRs_map _ (fun k hk => (key k hk).2)
    rw [toRF_eq (h.srt p) hi, toRF_eq h hi, lsF_eq h hi, hk2, srtBy_eq, sortR, hs]
    refine ⟨?_, ?_⟩
    · show RT.node (F.nm i) _ = _
      congr 1
      exact List.map_congr_left fun k hk => (key k (mem_isrt.1 hk)).1
    · cases hc : isrt (lsF F rk) (F.kids i) with
      | nil => rfl
      | cons k l =>
        rw [List.map_cons, firstR]
        exact (key k (mem_isrt.1 (by rw [hc]; simp))).2
end
/-- The rose tree of a tree. -/
def toR (t : Tre) : RT := toRF (frT t) (rkT t) 0
/-- The canonical tree: the children sorted, numbered depth first. -/
theorem canT_flat {t : Tre} (h : treeErr t = 0) : canT t = flat (sortR (toR t)) := by
  obtain ⟨hp, _⟩ := treeErr_zero h
  unfold canT
  rw [treeF_flat (canF_arb h) (R := t.ps.length) (fun i _ => rkT_le t i) hp]
  congr 1
  exact (toRF_srt (frT_arb h).wf _ hp (Nat.le_refl _) (fun j hj => by simpa using hj)).1
/-- The places of own in a part of the list that begins at place b. -/
def kf (own : Nat) : List Int → Nat → List Nat
  | [], _ => []
  | p :: ps, b => if p = (own : Int) then b :: kf own ps (b + 1) else kf own ps (b + 1)
theorem kf_app (own : Nat) : ∀ (a c : List Int) (b : Nat), kf own (a ++ c) b = kf own a b ++ kf own c (b + a.length)
  | [], c, b => rfl
  | x :: a, c, b => by
    rw [List.cons_append, kf, kf, kf_app own a c (b + 1), List.length_cons, show b + 1 + a.length = b + (a.length + 1) by omega]
    split <;> rfl
theorem kf_none (own : Nat) : ∀ (a : List Int) (b : Nat), (∀ x ∈ a, x ≠ (own : Int)) → kf own a b = []
  | [], _, _ => rfl
  | x :: a, b, h => by rw [kf, if_neg (h x (by simp)), kf_none own a (b + 1) (fun y hy => h y (by simp [hy]))]
theorem kidsL_kf {ps : List Int} {n : Nat} (h : ∀ i, i < ps.length → gi ps i = n → n < i) : kidsL ps n = kf n ps 0 := by
  have key : ∀ k, k ≤ ps.length → kidsK ps n k = kf n (ps.take k) 0 := by
    intro k
    induction k with
    | zero => intro _; rfl
    | succ k ih =>
      intro hk
      rw [kidsK_succ, ih (by omega), List.take_succ_eq_append_getElem (show k < ps.length by omega), kf_app, List.length_take, Nat.min_eq_left (by omega)]
      have hg : gi ps k = ps[k] := by simp [gi, show k < ps.length by omega]
      congr 1
      by_cases e : gi ps k = n
      · rw [if_pos ⟨h k (by omega) e, e⟩, kf, if_pos (by rw [← hg]; exact e)]
        simp [kf]
      · rw [if_neg (fun q => e q.2), kf, if_neg (by rw [← hg]; exact e)]; rfl
  unfold kidsL
  rw [key _ (Nat.le_refl _), List.take_length]
mutual
theorem psR_bd : ∀ (r : RT) (n : Nat) (p x : Int), x ∈ psR r n p → x = p ∨ ((n : Int) ≤ x ∧ x < ((n + sizeR r : Nat) : Int))
  | .node _ ks, n, p, x, h => by
    rw [psR, List.mem_cons] at h
    rcases h with h | h
    · exact .inl h
    · right
      rw [sizeR]
      rcases psRs_bd ks n (n + 1) x h with h1 | ⟨h1, h2⟩
      · subst h1; exact ⟨by omega, by omega⟩
      · exact ⟨by omega, by omega⟩
theorem psRs_bd : ∀ (rs : List RT) (own n : Nat) (x : Int), x ∈ psRs rs own n → x = (own : Int) ∨ ((n : Int) ≤ x ∧ x < ((n + sizeRs rs : Nat) : Int))
  | [], _, _, _, h => by simp [psRs] at h
  | r :: rs, own, n, x, h => by
    rw [psRs, List.mem_append] at h
    rw [sizeRs]
    rcases h with h | h
    · rcases psR_bd r n own x h with h1 | ⟨h1, h2⟩
      · exact .inl h1
      · exact .inr ⟨h1, by omega⟩
    · rcases psRs_bd rs own (n + sizeR r) x h with h1 | ⟨h1, h2⟩
      · exact .inl h1
      · exact .inr ⟨by omega, by omega⟩
end
/-- The numbers of the children. -/
def hdR : List RT → Nat → List Nat
  | [], _ => []
  | r :: rs, n => n :: hdR rs (n + sizeR r)
theorem kf_psRs (own : Nat) : ∀ (rs : List RT) (n : Nat), own < n → kf own (psRs rs own n) n = hdR rs n
  | [], _, _ => rfl
  | .node nm ks :: rs, n, h => by
    rw [psRs, hdR, kf_app, psR_len, kf_psRs own rs _ (by omega), psR, kf, if_pos rfl]
    rw [kf_none own _ _ (fun x hx e => by
      rcases psRs_bd ks n (n + 1) x hx with h1 | ⟨h1, _⟩ <;> omega)]
    rfl
theorem sizeR_pos (r : RT) : 0 < sizeR r := by cases r; rw [sizeR]; omega
theorem gi_app_r (a b : List Int) (k : Nat) : gi (a ++ b) (a.length + k) = gi b k := by simp [gi, List.getElem?_append_right]
theorem gs_app_r (a b : List ByteArray) (k : Nat) : gs (a ++ b) (a.length + k) = gs b k := by simp [gs, List.getElem?_append_right]
theorem gi_app_l {a : List Int} (b : List Int) {k : Nat} (h : k < a.length) : gi (a ++ b) k = gi a k := by simp [gi, List.getElem?_append_left h]
/-- A rose tree laid somewhere in a tree is found there. -/
theorem toRD_at : ∀ (d : Nat) (r : RT) (n : Nat) (p : Int) (t : Tre) (pre post : List Int) (nre nost : List ByteArray), sizeR r ≤ d → t.ps = pre ++ (psR r n p ++ post) → t.ns = nre ++ (nsR r ++ nost) → pre.length = n → nre.length = n → p < n → (∀ x ∈ pre, x < (n : Int)) → (∀ x ∈ post, x < (n : Int) ∨ ((n + sizeR r : Nat) : Int) ≤ x) → toRD (frT t) d n = r := by
  intro d
  induction d with
  | zero => intro r n p t pre post nre nost hd; have := sizeR_pos r; omega
  | succ d ih =>
    intro r n p t pre post nre nost hd hps hns hpl hnl hp hpre hpost
    obtain ⟨nm, ks⟩ := r
    rw [sizeR] at hd hpost
    rw [psR, List.cons_append] at hps
    rw [nsR, List.cons_append] at hns
    have hk : (frT t).kids n = hdR ks (n + 1) := by
      rw [frT_kids, kidsL_kf]
      · rw [hps, kf_app, kf_none n pre 0 (fun x hx e => by have := hpre x hx; omega), List.nil_append, kf, if_neg (by omega), kf_app, hpl, Nat.zero_add, kf_psRs n ks (n + 1) (by omega), psRs_len]
        rw [kf_none n post _ (fun x hx e => by rcases hpost x hx with h1 | h1 <;> omega), List.append_nil]
      · intro i hi e
        rw [hps] at e
        rcases Nat.lt_trichotomy i n with h1 | h1 | h1
        · rw [gi_app_l _ (by omega)] at e
          have := hpre _ (gi_mem (l := pre) (k := i) (by omega)); omega
        · subst h1
          have h2 := gi_app_r pre (p :: (psRs ks i (i + 1) ++ post)) 0
          rw [hpl] at h2
          have h2 : gi (pre ++ p :: (psRs ks i (i + 1) ++ post)) i = p := h2
          rw [h2] at e
          have e : p = i := e
          omega
        · exact h1
    have hnm : (frT t).nm n = nm := by
      show gs t.ns n = nm
      rw [hns, ← hnl]
      exact gs_app_r nre (nm :: (nsRs ks ++ nost)) 0
    rw [toRD, hk, hnm]
    congr 1
    have key : ∀ (rs : List RT) (m : Nat) (pr : List Int) (nr : List ByteArray), sizeRs rs ≤ d → t.ps = pr ++ (psRs rs n m ++ post) → t.ns = nr ++ (nsRs rs ++ nost) → pr.length = m → nr.length = m → n < m → (∀ x ∈ pr, x < (m : Int)) → (∀ x ∈ post, x < (n : Int) ∨ ((m + sizeRs rs : Nat) : Int) ≤ x) → (hdR rs m).map (toRD (frT t) d) = rs := by
      intro rs
      induction rs with
      | nil => intros; rfl
      | cons r rs ihr =>
        intro m pr nr hd2 hps2 hns2 hpl2 hnl2 hm hpr hpo
        rw [sizeRs] at hd2 hpo
        rw [psRs, List.append_assoc] at hps2
        rw [nsRs, List.append_assoc] at hns2
        rw [hdR, List.map_cons]
        have h1 := ih r m n t pr (psRs rs n (m + sizeR r) ++ post) nr (nsRs rs ++ nost) (by omega) hps2 hns2 hpl2 hnl2 (by omega) hpr (fun x hx => by
          rcases List.mem_append.1 hx with hx | hx
          · rcases psRs_bd rs n (m + sizeR r) x hx with h2 | ⟨h2, _⟩
            · exact .inl (by omega)
            · exact .inr h2
          · rcases hpo x hx with h2 | h2
            · exact .inl (by omega)
            · exact .inr (by omega))
        have h2 := ihr (m + sizeR r) (pr ++ psR r m n) (nr ++ nsR r) (by omega) (by rw [hps2, List.append_assoc]) (by rw [hns2, List.append_assoc])
          (by rw [List.length_append, psR_len, hpl2]) (by rw [List.length_append, nsR_len, hnl2]) (by omega) (fun x hx => by
            rcases List.mem_append.1 hx with hx | hx
            · have := hpr x hx; omega
            · rcases psR_bd r m n x hx with h3 | ⟨_, h3⟩ <;> omega) (fun x hx => by
            rcases hpo x hx with h3 | h3
            · exact .inl h3
            · exact .inr (by omega))
        rw [h1, h2]
    exact key ks (n + 1) (pre ++ [p]) (nre ++ [nm]) (by omega) (by rw [hps, List.append_assoc]; rfl) (by rw [hns, List.append_assoc]; rfl) (by simp [hpl]) (by simp [hnl]) (by omega) (fun x hx => by
      rcases List.mem_append.1 hx with hx | hx
      · have := hpre x hx; omega
      · have : x = p := by simpa using hx
        omega) (fun x hx => by
      rcases hpost x hx with h3 | h3
      · exact .inl h3
      · exact .inr (by omega))
theorem flat_ps (r : RT) : (flat r).ps.length = sizeR r := psR_len r 0 (-1)
theorem flat_ns (r : RT) : (flat r).ns.length = sizeR r := nsR_len r
/-- The rose tree of a rose tree's numbering is that rose tree. -/
theorem toR_flat (r : RT) : toR (flat r) = r := by
  unfold toR toRF
  have h : rkT (flat r) 0 = sizeR r := by unfold rkT; rw [flat_ps, Nat.sub_zero]
  rw [h]
  exact toRD_at (sizeR r) r 0 (-1) (flat r) [] [] [] [] (Nat.le_refl _) (by simp [flat]) (by simp [flat]) rfl rfl (by omega) (fun x hx => by simp at hx) (fun x hx => by simp at hx)
end Go.Proofs.YtcbmbhghmfehpaaGreat
