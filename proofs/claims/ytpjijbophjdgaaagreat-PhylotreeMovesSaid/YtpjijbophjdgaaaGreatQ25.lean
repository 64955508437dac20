/- The contract of slices.Sort at strings: the laying. slices.Sort at strings that the call has built. The law's names: A, B, .. slices.Equal at strings. The tree of groups that are not in conflict: valid, its leaves are the names, no node has one child. Two rose trees without one-child nodes that have the same families of leaves are the same, sorted. Contracts: Support, Original, Significant of sharederror. Contracts of the references: Check of layer 30; right, check, Support, Original, Significant of layer 35. The contracts of layer 35's reference's has, common, conflict. Maps whose keys are strings. Which nodes lie below a node of a tree that is numbered depth first. What Consistent computes: plain. Which parts the rose tree of nested sets has: the sets, and the single sources. The plain law of SharederrorLeaves. A region that draws its order, only reads, and ends in one operation that may write: outside a round. The walk of sharederror.Consistent. -/
import Derived.Shelf.SlGeneric
import Derived.Shelf.Lays
import Derived.Shelf.Sort.Plain
import Derived.Ground.NamesProg
import Derived.Test.YtpjijbophjdgaaaGreatProg
import Derived.Test.YtpjijbophjdgaaaGreatQ4
import Derived.Test.YtpjijbophjdgaaaGreatQ1
import Derived.Sort.OwnSorted
import Derived.Shelf.Slices.In.SortNone
import Derived.Test.YtpjijbophjdgaaaGreatQ24
import Derived.Laws.IdiomStrings
import Derived.Test.YtpjijbophjdgaaaGreatQ2
import Derived.Test.YtpjijbophjdgaaaGreatQ6
import Derived.Test.YtpjijbophjdgaaaGreatQ16
import Derived.Test.YtpjijbophjdgaaaGreatQ3
namespace Go.Proofs
open Go.Shelf
end Go.Proofs
namespace Go.Proofs.YtpjijbophjdgaaaGreat
open Go.RowKit Go.Sort Go.Shelf Go.Deep
end Go.Proofs.YtpjijbophjdgaaaGreat
namespace Go.Proofs.YtpjijbophjdgaaaGreat
open Go.RowKit Go.Deep
end Go.Proofs.YtpjijbophjdgaaaGreat
namespace Go.Proofs.YtpjijbophjdgaaaGreat
open Go.RowKit Go.Deep
theorem strs_ext {xs ys : List ByteArray} (hl : xs.length = ys.length) (h : ∀ j, j < xs.length → gs xs j = gs ys j) : xs = ys := by
  refine List.ext_getElem hl fun i h1 h2 => ?_
  have := h i h1
  simpa [gs, h1, h2] using this
set_option maxRecDepth 100000 in
set_option maxHeartbeats 400000 in
theorem equal_str_t (S T : Nat → Prop) (w : World) (v u : Value) (xs ys : List ByteArray) (h : StrsAt S w v xs) (h2 : StrsAt T w u ys) (hn : xs.length ≤ 1000000) (hn2 : ys.length ≤ 1000000) :
    Calls Tryz.prog 93 #[v, u] w (EqPost w (decide (xs = ys))) := by
  obtain ⟨p, cap, rfl, hcap, _⟩ := SlAt.open h
  obtain ⟨q, cap2, rfl, hcap2, _⟩ := SlAt.open h2
  have HX : Hid (StrsAt S w (.slice p xs.length cap) xs) := h
  have HY : Hid (StrsAt T w (.slice q ys.length cap2) ys) := h2
  clear h h2
  by_cases hl : xs.length = ys.length
  · have hl1 : ((xs.length : Int) != ys.length) = false := by simp [hl]
    have HL := Lib.hid hl
    clear hl
    go_enter Tryz.func93, Tryz.ntmps93
    go_wp2_with fail
    go_loopw [5, 13] (fun _ i wr => ∃ k n : Nat, k ≤ xs.length ∧ i = .int .i64 k ∧ wr = w.drewN n ∧ Hid (∀ j, j < k → gs xs j = gs ys j)) (fun _ i _ => xs.length - (intOf i).toNat)
    case atStart => exact ⟨0, 0, Nat.zero_le _, rfl, rfl, fun j hj => absurd hj (Nat.not_lt_zero _)⟩
    case round =>
      obtain ⟨k, n, hk, rfl, rfl, hd⟩ := hrel
      by_cases hlt : k < xs.length
      · have hlt2 : k < ys.length := by rw [← HL.out]; exact hlt
        obtain ⟨b, off, rfl, hc⟩ := strs_get HX.out hlt
        obtain ⟨b2, off2, rfl, hc2⟩ := strs_get HY.out hlt2
        have i1 : (0 : Int) ≤ (k : Int) := by omega
        have i2 : (k : Int) < (xs.length : Int) := by omega
        have i3 : (k : Int) < (ys.length : Int) := by omega
        generalize hx : gs xs k = x at *
        generalize hy : gs ys k = y at *
        have HXX := Lib.hid hx
        have HYY := Lib.hid hy
        clear hx hy
        by_cases hxy : x = y
        · have hxy0 : (x.toList == y.toList) = true := by simp [hxy]
          have hxy1 : (x.toList != y.toList) = false := by simp [hxy]
          have HXY := Lib.hid hxy
          clear hxy
          go_wp2_with fail
          go_quiet (fail)
          go_wp2_with fail
          go_roundw
          case rel => exact ⟨k + 1, n + nq, by omega, by go_num, rfl, fun j hj => if e : j = k then by subst e; rw [HXX.out, HYY.out, HXY.out] else hd.out j (by omega)⟩
          case measure => simp [intOf]; omega
        · have hxy0 : (x.toList == y.toList) = false := by
            cases h : (x.toList == y.toList) with
            | false => rfl
            | true => exact absurd (str_yes h) hxy
          have hxy1 : (x.toList != y.toList) = true := by unfold bne; rw [hxy0]; rfl
          have HXY := Lib.hid hxy
          clear hxy
          go_wp2_with fail
          go_quiet (fail)
          go_wp2_with fail
          go_ret
          refine ⟨ret_bool ?_, n + nq, by rw [World.drewN_drewN]⟩
          rw [eq_comm, decide_eq_false_iff_not]
          rintro rfl
          exact HXY.out (by rw [← HXX.out, ← HYY.out])
      · obtain rfl : k = xs.length := by omega
        clear hlt hk
        have hex : xs = ys := strs_ext HL.out hd.out
        have HEX : Hid (decide (xs = ys) = true) := decide_eq_true hex
        clear hex
        go_wp2_with fail
        go_ret
        exact ⟨ret_bool (by rw [HEX.out]), n, rfl⟩
  · have hl1 : ((xs.length : Int) != ys.length) = true := by simp; omega
    have HL := Lib.hid hl
    clear hl
    go_enter Tryz.func93, Tryz.ntmps93
    go_wp2_with fail
    go_ret
    refine ⟨ret_bool ?_, 0, rfl⟩
    rw [eq_comm, decide_eq_false_iff_not]
    rintro rfl
    exact HL.out rfl
end Go.Proofs.YtpjijbophjdgaaaGreat
namespace Go.Proofs.YtpjijbophjdgaaaGreat
section
variable {names : List ByteArray} {l : List Grp}
end
end Go.Proofs.YtpjijbophjdgaaaGreat
namespace Go.Proofs.YtpjijbophjdgaaaGreat
structure OkU (r : RT) : Prop where
  nd : (leafR r).Nodup
  pt : ∀ s ∈ subR r, PartOk s
theorem OkU.good {r : RT} (h : OkU r) : GoodR r := ⟨fun s hs hk => (h.pt s hs).1 hk, fun s hs hk => (h.pt s hs).2.1 hk, h.nd⟩
theorem mem_kid {nm : ByteArray} {ks : List RT} {k : RT} (hk : k ∈ ks) : k ∈ subR (.node nm ks) := by
  rw [subR]; exact List.mem_cons_of_mem _ (mem_subRs hk k (subR_self k))
theorem mem_subRs_ex {u : RT} {ks : List RT} (h : u ∈ subRs ks) : ∃ k ∈ ks, u ∈ subR k := by
  rw [subRs_flat] at h
  obtain ⟨k, hk, hu⟩ := List.mem_flatMap.1 h
  exact ⟨k, hk, hu⟩
theorem size0_eq {a b : ByteArray} (ha : a.size = 0) (hb : b.size = 0) : a = b := by
  apply ByteArray.ext
  apply Array.ext
  · show a.size = b.size; omega
  · intro i hi _; have : i < a.size := hi; omega
end Go.Proofs.YtpjijbophjdgaaaGreat
namespace Go.Proofs.YtpjijbophjdgaaaGreat
open Go.RowKit Go.Deep
section
variable {P : Program} {ops : Array Oper} {rest : List Oper} {o : Oper} {a : Act} {Q : Exit → Act → World → Prop}
end
end Go.Proofs.YtpjijbophjdgaaaGreat
namespace Go.Proofs.YtpjijbophjdgaaaGreat
open Go.RowKit Go.Deep
end Go.Proofs.YtpjijbophjdgaaaGreat
namespace Go.Proofs.YtpjijbophjdgaaaGreat
open Go.RowKit Go.Deep
end Go.Proofs.YtpjijbophjdgaaaGreat
namespace Go.Proofs.YtpjijbophjdgaaaGreat
open Go.RowKit Go.Deep
def putS (l : List (ByteArray × Value)) (k : ByteArray) (v : Value) : List (ByteArray × Value) := if (l.lookup k).isNone then l ++ [(k, v)] else l.map fun x => if x.1 = k then (k, v) else x
def SMap (w : World) (b : Nat) (l : List (ByteArray × Value)) : Prop := ∃ es clock, w.heap[b]? = some (.map es clock) ∧ es.toList.map (fun x => (x.key, x.val)) = l.map (fun x => (Value.string x.1, x.2))
def UniqS (l : List (ByteArray × Value)) : Prop := (l.map (·.1)).Nodup
theorem ba_beq (a b : ByteArray) : (a == b) = decide (a = b) := by
  obtain ⟨a⟩ := a
  obtain ⟨b⟩ := b
  have : ((⟨a⟩ : ByteArray) == ⟨b⟩) = (a == b) := rfl
  rw [this]
  by_cases h : a = b
  · subst h; simp
  · have h2 : ¬ (⟨a⟩ : ByteArray) = ⟨b⟩ := fun e => h (ByteArray.mk.inj e)
    rw [decide_eq_false h2]; simpa using h
theorem ba_self (a : ByteArray) : (a == a) = true := by rw [ba_beq]; simp
theorem ba_ne {a b : ByteArray} (h : ¬ a = b) : (a == b) = false := by rw [ba_beq]; simpa using h
section
variable {P : Program} {w : World}
theorem findNow_s (k : ByteArray) : ∀ (es : List MapEntry) (l : List (ByteArray × Value)) (i : Nat),
    es.map (fun x => (x.key, x.val)) = l.map (fun x => (Value.string x.1, x.2)) →
      (l.lookup k = none ∧ Instr.findNow .string (.string k) es i = some none) ∨ ∃ j v, l.lookup k = some v ∧ (l[j]?).map (·.1) = some k ∧ Instr.findNow .string (.string k) es i = some (some (i + j, v)) := by
  intro es
  induction es with
  | nil =>
    intro l i hl
    cases l with
    | nil => exact .inl ⟨rfl, rfl⟩
    | cons => cases hl
  | cons x es ih =>
    intro l i hl
    cases l with
    | nil => cases hl
    | cons y l =>
      simp only [List.map_cons, List.cons.injEq, Prod.mk.injEq] at hl
      obtain ⟨⟨h1, h2⟩, h3⟩ := hl
      obtain ⟨y1, y2⟩ := y
      have h1 : x.key = .string y1 := h1
      have h2 : x.val = y2 := h2
      by_cases h : k = y1
      · subst h
        refine .inr ⟨0, y2, by rw [List.lookup_cons, ba_self], rfl, ?_⟩
        simp [Instr.findNow, Instr.sameNow, h1, h2, ba_self]
      · have hb : (k == y1) = false := ba_ne h
        rcases ih l (i + 1) h3 with ⟨h4, h5⟩ | ⟨j, v, h4, h5, h6⟩
        · refine .inl ⟨by rw [List.lookup_cons, hb]; exact h4, ?_⟩
          simp [Instr.findNow, Instr.sameNow, h1, hb, h5]
        · refine .inr ⟨j + 1, v, by rw [List.lookup_cons, hb]; exact h4, by simpa using h5, ?_⟩
          simp [Instr.findNow, Instr.sameNow, h1, hb, h6]; omega
theorem run_findS {t : TypeId} (ht : P.underlying t = some .string) (k : ByteArray) (es : List MapEntry) (l : List (ByteArray × Value)) (hl : es.map (fun x => (x.key, x.val)) = l.map (fun x => (Value.string x.1, x.2))) :
    (l.lookup k = none ∧ (Instr.findKey t (.string k) es).run P w = .ok none w) ∨ ∃ j v, l.lookup k = some v ∧ (l[j]?).map (·.1) = some k ∧ (Instr.findKey t (.string k) es).run P w = .ok (some (j, v)) w := by
  have hu := run_underlying (w := w) ht
  rcases findNow_s k es l 0 hl with ⟨h1, h2⟩ | ⟨j, v, h1, h2, h3⟩
  · exact .inl ⟨h1, by simp [Instr.findKey, hu, h2]⟩
  · exact .inr ⟨j, v, h1, h2, by simp [Instr.findKey, hu, h3]⟩
theorem run_checkS {t : TypeId} (ht : P.underlying t = some .string) (em : Bool) (k : ByteArray) : (Instr.checkKey em 10000 t (.string k)).run P w = .ok () w := by
  have hu := run_underlying (w := w) ht
  show (Instr.checkKey em (9999 + 1) t (.string k)).run P w = _
  unfold Instr.checkKey
  simp [hu]
theorem lookupS_none {l : List (ByteArray × Value)} {k : ByteArray} : l.lookup k = none ↔ k ∉ l.map (·.1) := by
  induction l with
  | nil => simp
  | cons y l ih =>
    obtain ⟨y1, y2⟩ := y
    rw [List.lookup_cons]
    by_cases h : k = y1
    · subst h; simp [ba_self]
    · have hb : (k == y1) = false := ba_ne h
      rw [hb]; simp only [List.map_cons, List.mem_cons, not_or]
      exact ⟨fun h2 => ⟨h, ih.1 h2⟩, fun h2 => ih.2 h2.2⟩
theorem putS_keys (l : List (ByteArray × Value)) (k : ByteArray) (v : Value) : (putS l k v).map (·.1) = if (l.lookup k).isNone then l.map (·.1) ++ [k] else l.map (·.1) := by
  unfold putS
  split
  · simp
  · rw [List.map_map]
    refine List.map_congr_left fun x _ => ?_
    show (if x.1 = k then (k, v) else x).1 = x.1
    split
    · rename_i h; exact h.symm
    · rfl
theorem putS_uniq {l : List (ByteArray × Value)} (h : UniqS l) (k : ByteArray) (v : Value) : UniqS (putS l k v) := by
  unfold UniqS
  rw [putS_keys]
  split
  · rename_i h2
    have h3 : k ∉ l.map (·.1) := lookupS_none.1 (by simpa using h2)
    rw [List.nodup_append]
    refine ⟨h, by simp, fun a ha b hb => ?_⟩
    have : b = k := by simpa using hb
    subst this
    exact fun e => h3 (by rw [← e]; exact ha)
  · exact h
theorem modS_uniq {l : List (ByteArray × Value)} (h : UniqS l) {k : ByteArray} (v : Value) {j : Nat} (hj : (l[j]?).map (·.1) = some k) : (l.map fun x => if x.1 = k then (k, v) else x) = l.set j (k, v) := by
  apply List.ext_getElem?
  intro m
  have hjl : j < l.length := by
    cases hlj : l[j]? with
    | none => rw [hlj] at hj; cases hj
    | some y => exact (List.getElem?_eq_some_iff.1 hlj).1
  rw [List.getElem?_map, List.getElem?_set]
  by_cases e : j = m
  · subst e
    rw [if_pos rfl, if_pos hjl]
    rw [List.getElem?_eq_getElem hjl] at hj ⊢
    have h3 : (l[j]).1 = k := by simpa using hj
    simp [h3]
  · rw [if_neg e]
    cases hm : l[m]? with
    | none => rfl
    | some y =>
      have hml := (List.getElem?_eq_some_iff.1 hm).1
      have hne : y.1 ≠ k := fun h4 => by
        have h5 : (l.map (·.1))[m]? = (l.map (·.1))[j]? := by rw [List.getElem?_map, List.getElem?_map, hm, hj]; simp [h4]
        have h6 : m < (l.map (·.1)).length := by simpa using hml
        have h7 : j < (l.map (·.1)).length := by simpa using hjl
        rw [List.getElem?_eq_getElem h6, List.getElem?_eq_getElem h7] at h5
        injection h5 with h5
        exact e ((List.getElem_inj h).1 h5).symm
      simp [hne]
theorem SMap.made (w : World) : SMap (w.alloc (.map #[] 0)) w.heap.size [] := ⟨#[], 0, (MapKept.heap_alloc w _).1, rfl⟩
theorem SMap.same {w' : World} {b : Nat} {l : List (ByteArray × Value)} (h : SMap w b l) (hb : w'.heap[b]? = w.heap[b]?) : SMap w' b l := by
  obtain ⟨es, clock, h1, h2⟩ := h
  exact ⟨es, clock, hb.trans h1, h2⟩
theorem SMap.lt {b : Nat} {l : List (ByteArray × Value)} (h : SMap w b l) : b < w.heap.size := by
  obtain ⟨es, clock, h1, _⟩ := h
  exact (Array.getElem?_eq_some_iff.1 h1).1
theorem run_sset {mt t el : TypeId} (hm : P.underlying mt = some (.map t el)) (ht : P.underlying t = some .string) {b : Nat} {l : List (ByteArray × Value)} (h : SMap w b l) (hq : UniqS l) (k : ByteArray) (v : Value) :
    ∃ w', (Instr.mapUpdate mt (.map (some b)) (.string k) v).run P w = .ok () w' ∧ SMap w' b (putS l k v) ∧ w'.heap.size = w.heap.size ∧ w'.os = w.os ∧ w'.tape = w.tape ∧ w'.output = w.output ∧ ∀ j, j ≠ b → w'.heap[j]? = w.heap[j]? := by
  obtain ⟨es, clock, hb, hl⟩ := h
  have hu := run_underlying (w := w) hm
  have hg := MapKept.run_getObj_map (P := P) hb
  have hbl := (Array.getElem?_eq_some_iff.1 hb).1
  rcases run_findS (w := w) ht k es.toList l hl with ⟨h1, h2⟩ | ⟨j, v', h1, h5, h2⟩
  · have hs := MapKept.run_setObj_map (P := P) (.map (es.push { key := .string k, val := v, born := clock }) (clock + 1)) hb
    refine ⟨{ w with heap := w.heap.setIfInBounds b (.map (es.push { key := .string k, val := v, born := clock }) (clock + 1)) }, by simp [Instr.mapUpdate, hu, hg, run_checkS ht, h2, hs], ⟨es.push { key := .string k, val := v, born := clock }, clock + 1, by simp [hbl], ?_⟩, by simp, rfl, rfl, rfl, fun j hj => by simp [Ne.symm hj]⟩
    unfold putS; rw [h1]; simp [hl]
  · have hkey : ((es[j]?).map (·.key)) = some (.string k) := by
      have h8 := congrArg (fun q => (q[j]?).map (·.1)) hl
      simp only [List.getElem?_map, Option.map_map] at h8
      have h9 : (l[j]?).map (fun x => Value.string x.1) = some (.string k) := by
        cases hlj : l[j]? with
        | none => rw [hlj] at h5; cases h5
        | some y => rw [hlj] at h5; simp at h5; simp [h5]
      have h10 : (es.toList[j]?).map (·.key) = (l[j]?).map (fun x => Value.string x.1) := h8
      rw [← Array.getElem?_toList, h10, h9]
    have hst : (Instr.keyThatStays (((es[j]?).map (·.key)).getD (.string k)) (.string k)).run P w = .ok (.string k) w := by
      rw [hkey]
      have h0 : Instr.sameBits 10000 (.string k) (.string k) = true := by simp [Instr.sameBits, ba_self]
      show (Instr.keyThatStays (.string k) (.string k)).run P w = _
      unfold Instr.keyThatStays
      rw [if_pos h0]; rfl
    have hs := MapKept.run_setObj_map (P := P) (.map (es.modify j fun e => { e with key := .string k, val := v }) clock) hb
    refine ⟨{ w with heap := w.heap.setIfInBounds b (.map (es.modify j fun e => { e with key := .string k, val := v }) clock) }, by simp [Instr.mapUpdate, hu, hg, run_checkS ht, h2, hst, hs], ⟨es.modify j fun e => { e with key := .string k, val := v }, clock, by simp [hbl], ?_⟩, by simp, rfl, rfl, rfl, fun m hm => by simp [Ne.symm hm]⟩
    have hpl : putS l k v = l.set j (k, v) := by
      unfold putS; rw [h1]
      exact modS_uniq hq v h5
    rw [hpl]
    apply List.ext_getElem?
    intro m
    have h8 := congrArg (fun q => q[m]?) hl
    simp only [List.getElem?_map] at h8
    rw [List.getElem?_map, List.getElem?_map, Array.getElem?_toList, Array.getElem?_modify, List.getElem?_set]
    have hjl : j < l.length := by
      cases hlj : l[j]? with
      | none => rw [hlj] at h5; cases h5
      | some y => exact (List.getElem?_eq_some_iff.1 hlj).1
    have hje : j < es.size := by have := congrArg List.length hl; simp at this; omega
    by_cases e : j = m
    · subst e
      rw [if_pos rfl, if_pos rfl, if_pos hjl, Array.getElem?_eq_getElem hje]
      rfl
    · rw [if_neg e, if_neg e, ← Array.getElem?_toList]; exact h8
theorem run_slook {mt t el : TypeId} (hm : P.underlying mt = some (.map t el)) (ht : P.underlying t = some .string) {z : Value} (hz : (zeroValue el).run P w = .ok z w) {b : Nat} {l : List (ByteArray × Value)} (h : SMap w b l) (k : ByteArray) :
    (Instr.lookup mt (.map (some b)) (.string k) false).run P w = .ok ((l.lookup k).getD z) w := by
  obtain ⟨es, clock, hb, hl⟩ := h
  have hu := run_underlying (w := w) hm
  have hg := MapKept.run_getObj_map (P := P) hb
  rcases run_findS (w := w) ht k es.toList l hl with ⟨h1, h2⟩ | ⟨j, v', h1, _, h2⟩
  · simp [Instr.lookup, hu, hg, run_checkS ht, h2, hz, h1]
  · simp [Instr.lookup, hu, hg, run_checkS ht, h2, h1]
end
end Go.Proofs.YtpjijbophjdgaaaGreat
namespace Go.Proofs.YtpjijbophjdgaaaGreat
def climb (ps : List Int) (n : Nat) : Nat → Nat → Nat
  | 0, k => k
  | d + 1, k => if n < k then climb ps n d (gi ps k).toNat else k
def hitB (ps : List Int) (n i : Nat) : Bool := decide (climb ps n i i = n)
theorem pOkB_par {ps : List Int} (h : pOkB ps = true) {k : Nat} (hk : k < ps.length) (h0 : 0 < k) : 0 ≤ gi ps k ∧ gi ps k < k := by
  have h1 := pOkB_at h hk
  unfold okp at h1
  rw [if_neg (by omega)] at h1
  simpa using h1
theorem climb_fuel {ps : List Int} (hp : pOkB ps = true) (n : Nat) : ∀ {d e k : Nat}, k < ps.length → k ≤ d → k ≤ e → climb ps n d k = climb ps n e k := by
  intro d
  induction d with
  | zero =>
    intro e k hl h1 h2
    obtain rfl : k = 0 := by omega
    cases e with
    | zero => rfl
    | succ e => simp [climb]
  | succ d ih =>
    intro e k hl h1 h2
    cases e with
    | zero =>
      obtain rfl : k = 0 := by omega
      simp [climb]
    | succ e =>
      rw [climb, climb]
      split
      · rename_i hnk
        have := pOkB_par hp hl (by omega)
        exact ih (by omega) (by omega) (by omega)
      · rfl
theorem climb_step {ps : List Int} (hp : pOkB ps = true) {n k : Nat} (hk : k < ps.length) (hn : n < k) : climb ps n k k = climb ps n (gi ps k).toNat (gi ps k).toNat := by
  have h1 := pOkB_par hp hk (by omega)
  obtain ⟨m, rfl⟩ : ∃ m, k = m + 1 := ⟨k - 1, by omega⟩
  rw [climb, if_pos hn]
  exact climb_fuel hp n (by omega) (by omega) (Nat.le_refl _)
theorem climb_stop {ps : List Int} {n k : Nat} (hn : ¬ n < k) : climb ps n k k = k := by
  cases k with
  | zero => rfl
  | succ k => rw [climb, if_neg hn]

theorem hit_self {ps : List Int} (i : Nat) : hitB ps i i = true := by unfold hitB; rw [climb_stop (by omega)]; simp
theorem hit_le {ps : List Int} (_ : pOkB ps = true) {i : Nat} : ∀ {j : Nat}, j < ps.length → hitB ps i j = true → i ≤ j := by
  intro j
  induction j using Nat.strongRecOn with
  | ind j ih =>
    intro hj h
    by_cases e : i < j
    · omega
    · unfold hitB at h
      rw [climb_stop e] at h
      have : j = i := by simpa using h
      omega
theorem hit_step {ps : List Int} (hp : pOkB ps = true) {i j : Nat} (hj : j < ps.length) (hi : i < j) : hitB ps i j = hitB ps i (gi ps j).toNat := by
  unfold hitB; rw [climb_step hp hj hi]
theorem hit_kid {ps : List Int} (hp : pOkB ps = true) {i : Nat} : ∀ {j : Nat}, j < ps.length → (hitB ps i j = true ↔ j = i ∨ ∃ c, c < ps.length ∧ i < c ∧ gi ps c = (i : Int) ∧ hitB ps c j = true) := by
  intro j
  induction j using Nat.strongRecOn with
  | ind j ih =>
    intro hj
    by_cases e : i < j
    · have hpar := pOkB_par hp hj (by omega)
      have hpn : ((gi ps j).toNat : Int) = gi ps j := Int.toNat_of_nonneg hpar.1
      have hpl : (gi ps j).toNat < j := by omega
      rw [hit_step hp hj e, ih _ hpl (by omega)]
      constructor
      · rintro (h | ⟨c, h1, h2, h3, h4⟩)
        · exact .inr ⟨j, hj, e, by omega, hit_self j⟩
        · have := hit_le hp (show (gi ps j).toNat < ps.length by omega) h4
          exact .inr ⟨c, h1, h2, h3, by rw [hit_step hp hj (by omega)]; exact h4⟩
      · rintro (h | ⟨c, h1, h2, h3, h4⟩)
        · omega
        · have hcj := hit_le hp hj h4
          by_cases ec : c = j
          · subst ec; left; omega
          · right
            exact ⟨c, h1, h2, h3, by rw [hit_step hp hj (by omega)] at h4; exact h4⟩
    · unfold hitB
      rw [climb_stop e]
      constructor
      · intro h; left; simpa using h
      · rintro (h | ⟨c, h1, h2, h3, h4⟩)
        · simpa using h
        · have := hit_le hp hj h4; omega
end Go.Proofs.YtpjijbophjdgaaaGreat
namespace Go.Proofs.YtpjijbophjdgaaaGreat
theorem lookup_putS {l : List (ByteArray × Value)} {k j : ByteArray} {v : Value} : (putS l k v).lookup j = if j = k then some v else l.lookup j := by
  unfold putS
  split
  · rename_i h
    have h0 : l.lookup k = none := by simpa using h
    rw [List.lookup_append]
    by_cases e : j = k
    · subst e; rw [if_pos rfl, h0]; simp [List.lookup, ba_self]
    · rw [if_neg e]
      have : List.lookup j [(k, v)] = none := by simp [List.lookup, ba_ne e]
      rw [this]; simp
  · rename_i h
    have h0 : (l.lookup k).isSome := by
      cases hl : l.lookup k with
      | none => rw [hl] at h; exact absurd rfl h
      | some x => rfl
    clear h
    induction l with
    | nil => cases h0
    | cons y l ih =>
      obtain ⟨y1, y2⟩ := y
      rw [List.map_cons]
      by_cases e1 : y1 = k
      · subst e1
        rw [if_pos rfl, List.lookup_cons]
        by_cases e : j = y1
        · subst e; rw [ba_self, if_pos rfl]
        · rw [ba_ne e, if_neg e, List.lookup_cons, ba_ne e]
          have hm : ∀ l : List (ByteArray × Value), List.lookup j (l.map fun x => if x.1 = y1 then (y1, v) else x) = List.lookup j l := by
            intro l
            induction l with
            | nil => rfl
            | cons z l ihl =>
              obtain ⟨z1, z2⟩ := z
              rw [List.map_cons]
              by_cases ez : z1 = y1
              · subst ez; rw [if_pos rfl, List.lookup_cons, ba_ne e, List.lookup_cons, ba_ne e]; exact ihl
              · rw [if_neg ez, List.lookup_cons, List.lookup_cons, ihl]
          exact hm l
      · rw [if_neg e1, List.lookup_cons, List.lookup_cons]
        rw [List.lookup_cons, ba_ne (fun h => e1 h.symm)] at h0
        by_cases e : j = y1
        · subst e; rw [ba_self, if_neg e1]
        · rw [ba_ne e]; exact ih h0
end Go.Proofs.YtpjijbophjdgaaaGreat
namespace Go.Proofs.YtpjijbophjdgaaaGreat
end Go.Proofs.YtpjijbophjdgaaaGreat
namespace Go.Proofs.YtpjijbophjdgaaaGreat
section
variable {names : List ByteArray} {l : List Grp}
end
end Go.Proofs.YtpjijbophjdgaaaGreat
namespace Go.Proofs.YtpjijbophjdgaaaGreat
open Go.RowKit Go.Shelf Go.Deep
section
variable {P : Program} {C : World → Prop}
end
end Go.Proofs.YtpjijbophjdgaaaGreat
namespace Go.Proofs.YtpjijbophjdgaaaGreat
open Go.RowKit Go.Shelf Go.Deep
end Go.Proofs.YtpjijbophjdgaaaGreat
