/- Maps whose keys are strings. phylotree.nodes again: the row of nodes lies apart from the forest. Package intset: Complement and Intersect at sets. The contracts of the reference's checkStates, Check. -/
import Derived.Test.YtpjijbophjdgaaaGreatQ13
import Derived.Test.YtpjijbophjdgaaaGreatQ14
import Derived.Test.YtpjijbophjdgaaaGreatQ15
namespace Go.Proofs.YtpjijbophjdgaaaGreat
open Go.RowKit Go.Deep
def putS (l : List (ByteArray × Value)) (k : ByteArray) (v : Value) : List (ByteArray × Value) := if (l.lookup k).isNone then l ++ [(k, v)] else l.map fun x => if x.1 = k then (k, v) else x
def SMap (w : World) (b : Nat) (l : List (ByteArray × Value)) : Prop := ∃ es clock, w.heap[b]? = some (.map es clock) ∧ es.toList.map (fun x => (x.key, x.val)) = l.map (fun x => (Value.string x.1, x.2))
def UniqS (l : List (ByteArray × Value)) : Prop := (l.map (·.1)).Nodup
theorem ba_beq (a b : ByteArray) : (a == b) = decide (a = b) := by
  obtain ⟨a⟩ := a
  obtain ⟨b⟩ := b
  have : ((⟨a⟩ : ByteArray) == ⟨b⟩) = (a == b) := rfl
  rw [this]
  by_cases h : a = b
  · subst h; simp
  · have h2 : ¬ (⟨a⟩ : ByteArray) = ⟨b⟩ := fun e => h (ByteArray.mk.inj e)
    rw [decide_eq_false h2]; simpa using h
theorem ba_self (a : ByteArray) : (a == a) = true := by rw [ba_beq]; simp
theorem ba_ne {a b : ByteArray} (h : ¬ a = b) : (a == b) = false := by rw [ba_beq]; simpa using h
section
variable {P : Program} {w : World}
theorem findNow_s (k : ByteArray) : ∀ (es : List MapEntry) (l : List (ByteArray × Value)) (i : Nat),
    es.map (fun x => (x.key, x.val)) = l.map (fun x => (Value.string x.1, x.2)) →
      (l.lookup k = none ∧ Instr.findNow .string (.string k) es i = some none) ∨ ∃ j v, l.lookup k = some v ∧ (l[j]?).map (·.1) = some k ∧ Instr.findNow .string (.string k) es i = some (some (i + j, v)) := by
  intro es
  induction es with
  | nil =>
    intro l i hl
    cases l with
    | nil => exact .inl ⟨rfl, rfl⟩
    | cons => cases hl
  | cons x es ih =>
    intro l i hl
    cases l with
    | nil => cases hl
    | cons y l =>
      simp only [List.map_cons, List.cons.injEq, Prod.mk.injEq] at hl
      obtain ⟨⟨h1, h2⟩, h3⟩ := hl
      obtain ⟨y1, y2⟩ := y
      have h1 : x.key = .string y1 := h1
      have h2 : x.val = y2 := h2
      by_cases h : k = y1
      · subst h
        refine .inr ⟨0, y2, by rw [List.lookup_cons, ba_self], rfl, ?_⟩
        simp [Instr.findNow, Instr.sameNow, h1, h2, ba_self]
      · have hb : (k == y1) = false := ba_ne h
        rcases ih l (i + 1) h3 with ⟨h4, h5⟩ | ⟨j, v, h4, h5, h6⟩
        · refine .inl ⟨by rw [List.lookup_cons, hb]; exact h4, ?_⟩
          simp [Instr.findNow, Instr.sameNow, h1, hb, h5]
        · refine .inr ⟨j + 1, v, by rw [List.lookup_cons, hb]; exact h4, by simpa using h5, ?_⟩
          simp [Instr.findNow, Instr.sameNow, h1, hb, h6]; omega
theorem run_findS {t : TypeId} (ht : P.underlying t = some .string) (k : ByteArray) (es : List MapEntry) (l : List (ByteArray × Value)) (hl : es.map (fun x => (x.key, x.val)) = l.map (fun x => (Value.string x.1, x.2))) :
    (l.lookup k = none ∧ (Instr.findKey t (.string k) es).run P w = .ok none w) ∨ ∃ j v, l.lookup k = some v ∧ (l[j]?).map (·.1) = some k ∧ (Instr.findKey t (.string k) es).run P w = .ok (some (j, v)) w := by
  have hu := run_underlying (w := w) ht
  rcases findNow_s k es l 0 hl with ⟨h1, h2⟩ | ⟨j, v, h1, h2, h3⟩
  · exact .inl ⟨h1, by simp [Instr.findKey, hu, h2]⟩
  · exact .inr ⟨j, v, h1, h2, by simp [Instr.findKey, hu, h3]⟩
theorem run_checkS {t : TypeId} (ht : P.underlying t = some .string) (em : Bool) (k : ByteArray) : (Instr.checkKey em 10000 t (.string k)).run P w = .ok () w := by
  have hu := run_underlying (w := w) ht
  show (Instr.checkKey em (9999 + 1) t (.string k)).run P w = _
  unfold Instr.checkKey
  simp [hu]
theorem lookupS_none {l : List (ByteArray × Value)} {k : ByteArray} : l.lookup k = none ↔ k ∉ l.map (·.1) := by
  induction l with
  | nil => simp
  | cons y l ih =>
    obtain ⟨y1, y2⟩ := y
    rw [List.lookup_cons]
    by_cases h : k = y1
    · subst h; simp [ba_self]
    · have hb : (k == y1) = false := ba_ne h
      rw [hb]; simp only [List.map_cons, List.mem_cons, not_or]
      exact ⟨fun h2 => ⟨h, ih.1 h2⟩, fun h2 => ih.2 h2.2⟩
theorem putS_keys (l : List (ByteArray × Value)) (k : ByteArray) (v : Value) : (putS l k v).map (·.1) = if (l.lookup k).isNone then l.map (·.1) ++ [k] else l.map (·.1) := by
  unfold putS
  split
  · simp
  · rw [List.map_map]
    refine List.map_congr_left fun x _ => ?_
    show (if x.1 = k then (k, v) else x).1 = x.1
    split
    · rename_i h; exact h.symm
    · rfl
theorem putS_uniq {l : List (ByteArray × Value)} (h : UniqS l) (k : ByteArray) (v : Value) : UniqS (putS l k v) := by
  unfold UniqS
  rw [putS_keys]
  split
  · rename_i h2
    have h3 : k ∉ l.map (·.1) := lookupS_none.1 (by simpa using h2)
    rw [List.nodup_append]
    refine ⟨h, by simp, fun a ha b hb => ?_⟩
    have : b = k := by simpa using hb
    subst this
    exact fun e => h3 (by rw [← e]; exact ha)
  · exact h
theorem modS_uniq {l : List (ByteArray × Value)} (h : UniqS l) {k : ByteArray} (v : Value) {j : Nat} (hj : (l[j]?).map (·.1) = some k) : (l.map fun x => if x.1 = k then (k, v) else x) = l.set j (k, v) := by
  apply List.ext_getElem?
  intro m
  have hjl : j < l.length := by
    cases hlj : l[j]? with
    | none => rw [hlj] at hj; cases hj
    | some y => exact (List.getElem?_eq_some_iff.1 hlj).1
  rw [List.getElem?_map, List.getElem?_set]
  by_cases e : j = m
  · subst e
    rw [if_pos rfl, if_pos hjl]
    rw [List.getElem?_eq_getElem hjl] at hj ⊢
    have h3 : (l[j]).1 = k := by simpa using hj
    simp [h3]
  · rw [if_neg e]
    cases hm : l[m]? with
    | none => rfl
    | some y =>
      have hml := (List.getElem?_eq_some_iff.1 hm).1
      have hne : y.1 ≠ k := fun h4 => by
        have h5 : (l.map (·.1))[m]? = (l.map (·.1))[j]? := by rw [List.getElem?_map, List.getElem?_map, hm, hj]; simp [h4]
        have h6 : m < (l.map (·.1)).length := by simpa using hml
        have h7 : j < (l.map (·.1)).length := by simpa using hjl
        rw [List.getElem?_eq_getElem h6, List.getElem?_eq_getElem h7] at h5
        injection h5 with h5
        exact e ((List.getElem_inj h).1 h5).symm
      simp [hne]
theorem SMap.made (w : World) : SMap (w.alloc (.map #[] 0)) w.heap.size [] := ⟨#[], 0, (MapKept.heap_alloc w _).1, rfl⟩
theorem SMap.same {w' : World} {b : Nat} {l : List (ByteArray × Value)} (h : SMap w b l) (hb : w'.heap[b]? = w.heap[b]?) : SMap w' b l := by
  obtain ⟨es, clock, h1, h2⟩ := h
  exact ⟨es, clock, hb.trans h1, h2⟩
theorem run_sset {mt t el : TypeId} (hm : P.underlying mt = some (.map t el)) (ht : P.underlying t = some .string) {b : Nat} {l : List (ByteArray × Value)} (h : SMap w b l) (hq : UniqS l) (k : ByteArray) (v : Value) :
    ∃ w', (Instr.mapUpdate mt (.map (some b)) (.string k) v).run P w = .ok () w' ∧ SMap w' b (putS l k v) ∧ w'.heap.size = w.heap.size ∧ w'.os = w.os ∧ w'.tape = w.tape ∧ w'.output = w.output ∧ ∀ j, j ≠ b → w'.heap[j]? = w.heap[j]? := by
  obtain ⟨es, clock, hb, hl⟩ := h
  have hu := run_underlying (w := w) hm
  have hg := MapKept.run_getObj_map (P := P) hb
  have hbl := (Array.getElem?_eq_some_iff.1 hb).1
  rcases run_findS (w := w) ht k es.toList l hl with ⟨h1, h2⟩ | ⟨j, v', h1, h5, h2⟩
  · have hs := MapKept.run_setObj_map (P := P) (.map (es.push { key := .string k, val := v, born := clock }) (clock + 1)) hb
    refine ⟨{ w with heap := w.heap.setIfInBounds b (.map (es.push { key := .string k, val := v, born := clock }) (clock + 1)) }, by simp [Instr.mapUpdate, hu, hg, run_checkS ht, h2, hs], ⟨es.push { key := .string k, val := v, born := clock }, clock + 1, by simp [hbl], ?_⟩, by simp, rfl, rfl, rfl, fun j hj => by simp [Ne.symm hj]⟩
    unfold putS; rw [h1]; simp [hl]
  · have hkey : ((es[j]?).map (·.key)) = some (.string k) := by
      have h8 := congrArg (fun q => (q[j]?).map (·.1)) hl
      simp only [List.getElem?_map, Option.map_map] at h8
      have h9 : (l[j]?).map (fun x => Value.string x.1) = some (.string k) := by
        cases hlj : l[j]? with
        | none => rw [hlj] at h5; cases h5
        | some y => rw [hlj] at h5; simp at h5; simp [h5]
      have h10 : (es.toList[j]?).map (·.key) = (l[j]?).map (fun x => Value.string x.1) := h8
      rw [← Array.getElem?_toList, h10, h9]
    have hst : (Instr.keyThatStays (((es[j]?).map (·.key)).getD (.string k)) (.string k)).run P w = .ok (.string k) w := by
      rw [hkey]
      have h0 : Instr.sameBits 10000 (.string k) (.string k) = true := by simp [Instr.sameBits, ba_self]
      show (Instr.keyThatStays (.string k) (.string k)).run P w = _
      unfold Instr.keyThatStays
      rw [if_pos h0]; rfl
    have hs := MapKept.run_setObj_map (P := P) (.map (es.modify j fun e => { e with key := .string k, val := v }) clock) hb
    refine ⟨{ w with heap := w.heap.setIfInBounds b (.map (es.modify j fun e => { e with key := .string k, val := v }) clock) }, by simp [Instr.mapUpdate, hu, hg, run_checkS ht, h2, hst, hs], ⟨es.modify j fun e => { e with key := .string k, val := v }, clock, by simp [hbl], ?_⟩, by simp, rfl, rfl, rfl, fun m hm => by simp [Ne.symm hm]⟩
    have hpl : putS l k v = l.set j (k, v) := by
      unfold putS; rw [h1]
      exact modS_uniq hq v h5
    rw [hpl]
    apply List.ext_getElem?
    intro m
    have h8 := congrArg (fun q => q[m]?) hl
    simp only [List.getElem?_map] at h8
    rw [List.getElem?_map, List.getElem?_map, Array.getElem?_toList, Array.getElem?_modify, List.getElem?_set]
    have hjl : j < l.length := by
      cases hlj : l[j]? with
      | none => rw [hlj] at h5; cases h5
      | some y => exact (List.getElem?_eq_some_iff.1 hlj).1
    have hje : j < es.size := by have := congrArg List.length hl; simp at this; omega
    by_cases e : j = m
    · subst e
      rw [if_pos rfl, if_pos rfl, if_pos hjl, Array.getElem?_eq_getElem hje]
      rfl
    · rw [if_neg e, if_neg e, ← Array.getElem?_toList]; exact h8
theorem run_slook {mt t el : TypeId} (hm : P.underlying mt = some (.map t el)) (ht : P.underlying t = some .string) {z : Value} (hz : (zeroValue el).run P w = .ok z w) {b : Nat} {l : List (ByteArray × Value)} (h : SMap w b l) (k : ByteArray) :
    (Instr.lookup mt (.map (some b)) (.string k) false).run P w = .ok ((l.lookup k).getD z) w := by
  obtain ⟨es, clock, hb, hl⟩ := h
  have hu := run_underlying (w := w) hm
  have hg := MapKept.run_getObj_map (P := P) hb
  rcases run_findS (w := w) ht k es.toList l hl with ⟨h1, h2⟩ | ⟨j, v', h1, _, h2⟩
  · simp [Instr.lookup, hu, hg, run_checkS ht, h2, hz, h1]
  · simp [Instr.lookup, hu, hg, run_checkS ht, h2, h1]
end
end Go.Proofs.YtpjijbophjdgaaaGreat
namespace Go.Proofs.YtpjijbophjdgaaaGreat
open Go.RowKit Go.Deep
end Go.Proofs.YtpjijbophjdgaaaGreat
namespace Go.Proofs.YtpjijbophjdgaaaGreat
open Go.RowKit Go.Shelf Go.Deep
theorem members_t (w : World) (n : Int) (g : Nat) (lb : Array Value) :
    Calls Tryz.prog 157 #[.int .i64 n, .func (.func g) #[] lb] w fun e w' => e = .returned (.func (.func 196) #[] #[.pointer (some ⟨w.heap.size, 0, none⟩), .pointer (some ⟨w.heap.size + 1, 0, none⟩)]) ∧ w' = (w.alloc (.cells #[.int .i64 n] 3)).alloc (.cells #[.func (.func g) #[] lb] 78) := by
  go_enter Tryz.func157, Tryz.ntmps157
  go_wp2_with fail
  go_ret
  exact ⟨by simp, rfl⟩
set_option maxRecDepth 100000 in
theorem collectM_t (w : World) (B1 B2 N : Nat) (hN : N ≤ 64) (p : Int → Bool) (gf : Nat) (lbf : Array Value) (eg : ∀ args w, (callFunc gf args).run Tryz.prog w = .ok (.enter gf args) w)
    (hc1 : w.cell? ⟨B1, 0, none⟩ = some (.int .i64 (N : Int))) (hc2 : w.cell? ⟨B2, 0, none⟩ = some (.func (.func gf) #[] lbf))
    (hIs : ∀ k : Nat, k < N → ∀ W', KS (· < w.heap.size) w W' → Calls Tryz.prog gf (#[.int .i64 k] ++ lbf) W' fun e w' => e = .returned (.bool (p k)) ∧ ∃ q, w' = W'.drewN q) :
    Calls Tryz.prog 156 #[.func (.func 196) #[] #[.pointer (some ⟨B1, 0, none⟩), .pointer (some ⟨B2, 0, none⟩)]] w (AqPost w (memK p N)) := by
  have hB1 : B1 < w.heap.size := World.block_lt_of_cell? w _ hc1
  have hB2 : B2 < w.heap.size := World.block_lt_of_cell? w _ hc2
  have HA := Lib.hid (appendSeqG_t w 196 #[.pointer (some ⟨B1, 0, none⟩), .pointer (some ⟨B2, 0, none⟩)] (enters_of Tryz.func196 (by kernel_rfl) rfl) (memK p N) (fun w6 hu6 l J Jx W hW hJ _ hY h0 => by
    have hks : KS (· < w.heap.size) w W := fun b hb => (hW.block b (by have := hu6.size; have : b < w.heap.size := hb; omega)).trans (Below.block hu6 b hb)
    exact (members1_in 8 l B1 B2 (· < w.heap.size) N hN p gf lbf eg J Jx hY W hJ ((hks.cell (p := ⟨B1, 0, none⟩) hB1).trans hc1) ((hks.cell (p := ⟨B2, 0, none⟩) hB2).trans hc2) hB1 hB2 (fun k hk W' hW' => callsIn_wide.2 (hIs k hk W' (hks.trans hW'))) h0).mono fun _ _ ⟨h1, h2⟩ => ⟨h1, h2.imp (fun h => ⟨_, rfl, h⟩) id⟩) (by have := memK_len p N; omega))
  go_enter Tryz.func156, Tryz.ntmps156
  go_wp2_with fail
  refine HA.out.mono ?_
  rintro e w1 ⟨hu, v, rfl, ho⟩
  go_wp2_with fail
  go_ret
  exact ⟨hu, v, rfl, ho⟩
set_option maxHeartbeats 400000 in
theorem compl1_t (S : Nat → Prop) (w : World) (b6 b1 : Nat) (v : Value) (l : List Int) (k : Int) (h6 : w.cell? ⟨b6, 0, none⟩ = some (.func (.func 193) #[] #[.pointer (some ⟨b1, 0, none⟩)])) (hb : w.cell? ⟨b1, 0, none⟩ = some v) (h : IntsAt S w v l) (hn : l.length ≤ 1000000) (ha : l.Pairwise (· < ·)) :
    Calls Tryz.prog 158 #[.int .i64 k, .pointer (some ⟨b6, 0, none⟩)] w fun e w' => e = .returned (.bool (!l.contains k)) ∧ ∃ q, w' = w.drewN q := by
  have HC := Lib.hid (has1_t S w b1 v l k hb h hn ha)
  clear hb h ha
  go_enter Tryz.func158, Tryz.ntmps158
  go_wp2_with fail
  refine HC.out.mono ?_
  rintro e w' ⟨rfl, q, rfl⟩
  go_wp2_with fail
  go_ret
  exact ⟨ret_bool (by simp), q, rfl⟩
set_option maxHeartbeats 400000 in
theorem inter1_t (S : Nat → Prop) (w : World) (b5 b8 b9 c1 c2 : Nat) (v u : Value) (l m : List Int) (k : Int) (h5 : w.cell? ⟨b5, 0, none⟩ = some (.func (.func 188) #[] #[])) (h8 : w.cell? ⟨b8, 0, none⟩ = some (.func (.func 193) #[] #[.pointer (some ⟨c1, 0, none⟩)])) (h9 : w.cell? ⟨b9, 0, none⟩ = some (.func (.func 193) #[] #[.pointer (some ⟨c2, 0, none⟩)]))
    (hb : w.cell? ⟨c1, 0, none⟩ = some v) (h : IntsAt S w v l) (hn : l.length ≤ 1000000) (ha : l.Pairwise (· < ·)) (hb2 : w.cell? ⟨c2, 0, none⟩ = some u) (h2 : IntsAt S w u m) (hn2 : m.length ≤ 1000000) (ha2 : m.Pairwise (· < ·)) :
    Calls Tryz.prog 217 #[.int .i64 k, .pointer (some ⟨b5, 0, none⟩), .pointer (some ⟨b8, 0, none⟩), .pointer (some ⟨b9, 0, none⟩)] w fun e w' => e = .returned (.bool (l.contains k && m.contains k)) ∧ ∃ q, w' = w.drewN q := by
  have HC : Hid (∀ n, Calls Tryz.prog 193 #[.int .i64 k, .pointer (some ⟨c1, 0, none⟩)] (w.drewN n) fun e w' => e = .returned (.bool (l.contains k)) ∧ ∃ q, w' = w.drewN q) := fun n => by
    have hu := Up.drewN w n
    refine (has1_t S _ c1 v l k (hu.cell hb) (IntsAt.keep h (hu.kept _)) hn ha).mono ?_
    rintro e w' ⟨rfl, q, rfl⟩
    exact ⟨rfl, n + q, by rw [World.drewN_drewN]⟩
  have HD : Hid (∀ n, Calls Tryz.prog 193 #[.int .i64 k, .pointer (some ⟨c2, 0, none⟩)] (w.drewN n) fun e w' => e = .returned (.bool (m.contains k)) ∧ ∃ q, w' = w.drewN q) := fun n => by
    have hu := Up.drewN w n
    refine (has1_t S _ c2 u m k (hu.cell hb2) (IntsAt.keep h2 (hu.kept _)) hn2 ha2).mono ?_
    rintro e w' ⟨rfl, q, rfl⟩
    exact ⟨rfl, n + q, by rw [World.drewN_drewN]⟩
  have HE : Hid (∀ x y n, Calls Tryz.prog 188 #[.bool x, .bool y] (w.drewN n) fun e w' => e = .returned (.bool (x && y)) ∧ ∃ q, w' = w.drewN q) := fun x y n => by
    cases x
    · go_enter Tryz.func188, Tryz.ntmps188
      go_wp2_with fail
      go_ret
      exact ⟨rfl, n, rfl⟩
    · go_enter Tryz.func188, Tryz.ntmps188
      go_wp2_with fail
      go_ret
      exact ⟨rfl, n, rfl⟩
  clear hb h ha hb2 h2 ha2
  generalize l.contains k = x at *
  generalize m.contains k = y at *
  go_enter Tryz.func217, Tryz.ntmps217
  go_wp2_with fail
  go_big_quiet (first | with_reducible exact HC.out _ | with_reducible exact HD.out _ | with_reducible exact HE.out _ _ _)
  go_wp2_with fail
  go_ret
  exact ⟨rfl, _, rfl⟩
end Go.Proofs.YtpjijbophjdgaaaGreat
namespace Go.Proofs.YtpjijbophjdgaaaGreat
open Go.RowKit Go.Deep
end Go.Proofs.YtpjijbophjdgaaaGreat
