/- Maps whose keys are pointers at nodes. The closure that compares children: its contract. The world outside a forest. The contract of slices.SortFunc at nodes: the laying. Children sorted: slices.SortFunc with the closure of phylotree.sorted. -/
import Derived.Test.YtpjijbophjdgaaaGreatQ5
import Derived.MapKept
import Derived.Laws.Pointers
import Derived.Test.YtpjijbophjdgaaaGreatQ1
import Derived.Shelf.SlGeneric
import Derived.Shelf.SlSortCmp.NoneTotal
import Derived.Test.YtpjijbophjdgaaaGreatProg
import Derived.Sort.OwnSorted
namespace Go.Proofs.YtpjijbophjdgaaaGreat
open Go.RowKit Go.Deep
def Plain (w : World) (b : Nat) : Prop := ∃ c t, w.heap[b]? = some (.cells c t (0, 0)) ∧ 0 < c.size
section
variable {P : Program} {w : World}
theorem run_sameAddr {a b : Nat} (ha : Plain w a) (hb : Plain w b) : (sameAddr ⟨a, 0, none⟩ ⟨b, 0, none⟩).run P w = .ok (decide (a = b)) w := by
  obtain ⟨ca, ta, ha, hca⟩ := ha
  obtain ⟨cb, tb, hb, hcb⟩ := hb
  by_cases h : a = b
  · subst h; simp [sameAddr]
  · have h1 : (a == b) = false := by simp [h]
    simp [sameAddr, h1, h, World.frozen?, ha, hb, noView, viewAt, mayBeOne, stringish, World.shape?, getObj, Sem.run, shape, frozen]
def pk : Option Nat → Value
  | none => .pointer none
  | some b => .pointer (some ⟨b, 0, none⟩)
def okKey (w : World) : Option Nat → Prop
  | none => True
  | some b => Plain w b
theorem run_eqIn {t e : TypeId} (ht : P.underlying t = some (.pointer e)) (he : ∀ w, (sizeOf e).run P w = .ok 3 w) {x y : Option Nat} (hx : okKey w x) (hy : okKey w y) (d : Nat) : (Op.equalIn (d + 1) t (pk x) (pk y)).run P w = .ok (decide (x = y)) w := by
  have hu := run_underlying (w := w) ht
  unfold Op.equalIn
  cases x with
  | none => cases y <;> simp [hu, pk]
  | some a =>
    cases y with
    | none => simp [hu, pk]
    | some b =>
      have h := run_sameAddr (P := P) hx hy
      simp [hu, pk, he, h]
theorem run_eqp {t e : TypeId} (ht : P.underlying t = some (.pointer e)) (he : ∀ w, (sizeOf e).run P w = .ok 3 w) {x y : Option Nat} (hx : okKey w x) (hy : okKey w y) : (Op.equal t (pk x) (pk y)).run P w = .ok (decide (x = y)) w :=
  run_eqIn ht he hx hy 9999
theorem run_asking {t e : TypeId} (ht : P.underlying t = some (.pointer e)) (he : ∀ w, (sizeOf e).run P w = .ok 3 w) {k : Option Nat} (hk : okKey w k) : ∀ (es : List MapEntry) (l : List (Option Nat × Value)) (i : Nat),
    es.map (fun x => (x.key, x.val)) = l.map (fun x => (pk x.1, x.2)) → (∀ x ∈ l, okKey w x.1) →
      (l.lookup k = none ∧ (Instr.findAsking t (pk k) es i).run P w = .ok none w) ∨ ∃ j v, l.lookup k = some v ∧ (Instr.findAsking t (pk k) es i).run P w = .ok (some (j, v)) w := by
  intro es
  induction es with
  | nil =>
    intro l i hl _
    cases l with
    | nil => exact .inl ⟨rfl, by simp [Instr.findAsking]⟩
    | cons => cases hl
  | cons x es ih =>
    intro l i hl hok
    cases l with
    | nil => cases hl
    | cons y l =>
      simp only [List.map_cons, List.cons.injEq, Prod.mk.injEq] at hl
      obtain ⟨⟨h1, h2⟩, h3⟩ := hl
      have heq := run_eqp (w := w) ht he hk (hok y (by simp))
      rw [← h1] at heq
      by_cases h : k = y.1
      · subst h
        refine .inr ⟨i, y.2, ?_, ?_⟩
        · obtain ⟨y1, y2⟩ := y; simp
        · simp [Instr.findAsking, heq, h2]
      · have hb : (k == y.1) = false := by simpa using h
        rcases ih l (i + 1) h3 (fun z hz => hok z (by simp [hz])) with ⟨h4, h5⟩ | ⟨j, v, h4, h5⟩
        · refine .inl ⟨?_, by simp [Instr.findAsking, heq, h, h5]⟩
          obtain ⟨y1, y2⟩ := y
          rw [List.lookup_cons, hb]; exact h4
        · refine .inr ⟨j, v, ?_, by simp [Instr.findAsking, heq, h, h5]⟩
          obtain ⟨y1, y2⟩ := y
          rw [List.lookup_cons, hb]; exact h4
def PMap (w : World) (b : Nat) (l : List (Option Nat × Value)) : Prop := ∃ es clock, w.heap[b]? = some (.map es clock) ∧ es.toList.map (fun x => (x.key, x.val)) = l.map (fun x => (pk x.1, x.2))
theorem run_findKey {t e : TypeId} (ht : P.underlying t = some (.pointer e)) (he : ∀ w, (sizeOf e).run P w = .ok 3 w) {k : Option Nat} (hk : okKey w k) (es : List MapEntry) (l : List (Option Nat × Value))
    (hl : es.map (fun x => (x.key, x.val)) = l.map (fun x => (pk x.1, x.2))) (hok : ∀ x ∈ l, okKey w x.1) :
      (l.lookup k = none ∧ (Instr.findKey t (pk k) es).run P w = .ok none w) ∨ ∃ j v, l.lookup k = some v ∧ (Instr.findKey t (pk k) es).run P w = .ok (some (j, v)) w := by
  have hu := run_underlying (w := w) ht
  have h := run_asking ht he hk es l 0 hl hok
  cases es with
  | nil =>
    cases l with
    | nil => exact .inl ⟨rfl, by simp [Instr.findKey, hu, Instr.findNow]⟩
    | cons => cases hl
  | cons x es =>
    have hn : Instr.findNow (.pointer e) (pk k) (x :: es) 0 = none := by simp [Instr.findNow, Instr.sameNow]
    rcases h with ⟨h1, h2⟩ | ⟨j, v, h1, h2⟩
    · exact .inl ⟨h1, by simp [Instr.findKey, hu, hn, h2]⟩
    · exact .inr ⟨j, v, h1, by simp [Instr.findKey, hu, hn, h2]⟩
theorem run_checkKey {t e : TypeId} (ht : P.underlying t = some (.pointer e)) (em : Bool) (k : Option Nat) : (Instr.checkKey em 10000 t (pk k)).run P w = .ok () w := by
  have hu := run_underlying (w := w) ht
  show (Instr.checkKey em (9999 + 1) t (pk k)).run P w = _
  unfold Instr.checkKey
  cases k <;> simp [hu, pk]
theorem run_pget {mt t e el : TypeId} (hm : P.underlying mt = some (.map t el)) (ht : P.underlying t = some (.pointer e)) (he : ∀ w, (sizeOf e).run P w = .ok 3 w) {b : Nat} {l : List (Option Nat × Value)} (h : PMap w b l) {k : Option Nat} {v : Value}
    (hk : okKey w k) (hok : ∀ x ∈ l, okKey w x.1) (hv : l.lookup k = some v) : (Instr.lookup mt (.map (some b)) (pk k) false).run P w = .ok v w := by
  obtain ⟨es, clock, hb, hl⟩ := h
  have hu := run_underlying (w := w) hm
  have hg := MapKept.run_getObj_map (P := P) hb
  rcases run_findKey ht he hk es.toList l hl hok with ⟨h1, h2⟩ | ⟨j, v', h1, h2⟩
  · rw [h1] at hv; cases hv
  · rw [h1] at hv; injection hv with hv; subst hv
    simp [Instr.lookup, hu, hg, run_checkKey ht, h2]
theorem run_pput {mt t e el : TypeId} (hm : P.underlying mt = some (.map t el)) (ht : P.underlying t = some (.pointer e)) (he : ∀ w, (sizeOf e).run P w = .ok 3 w) {b : Nat} {l : List (Option Nat × Value)} (h : PMap w b l) {k : Option Nat} (v : Value)
    (hk : okKey w k) (hok : ∀ x ∈ l, okKey w x.1) (hv : l.lookup k = none) :
    ∃ w', (Instr.mapUpdate mt (.map (some b)) (pk k) v).run P w = .ok () w' ∧ PMap w' b (l ++ [(k, v)]) ∧ w'.heap.size = w.heap.size ∧ w'.os = w.os ∧ w'.tape = w.tape ∧ w'.output = w.output ∧ ∀ j, j ≠ b → w'.heap[j]? = w.heap[j]? := by
  obtain ⟨es, clock, hb, hl⟩ := h
  have hu := run_underlying (w := w) hm
  have hg := MapKept.run_getObj_map (P := P) hb
  rcases run_findKey ht he hk es.toList l hl hok with ⟨h1, h2⟩ | ⟨j, v', h1, h2⟩
  · have hs := MapKept.run_setObj_map (P := P) (.map (es.push { key := pk k, val := v, born := clock }) (clock + 1)) hb
    refine ⟨{ w with heap := w.heap.setIfInBounds b (.map (es.push { key := pk k, val := v, born := clock }) (clock + 1)) }, by simp [Instr.mapUpdate, hu, hg, run_checkKey ht, h2, hs], ⟨es.push { key := pk k, val := v, born := clock }, clock + 1, ?_, by simp [hl]⟩, by simp, rfl, rfl, rfl, fun j hj => ?_⟩
    · have := (Array.getElem?_eq_some_iff.1 hb).1
      simp [this]
    · simp [Ne.symm hj]
  · rw [h1] at hv; cases hv
end
end Go.Proofs.YtpjijbophjdgaaaGreat
namespace Go.Proofs.YtpjijbophjdgaaaGreat
open Go.RowKit Go.Deep
theorem Tryz.sizeNd : ∀ w, (Go.sizeOf 115).run Tryz.prog w = .ok 3 w := Tryz.sizeOf115
structure FUp (n : Nat) (A : Nat → Nat) (kv : Nat → Value) (w w' : World) : Prop where
  os : w'.os = w.os
  tape : w'.tape = w.tape
  output : w'.output = w.output
  size : w.heap.size ≤ w'.heap.size
  block : ∀ b, b < w.heap.size → (∀ i, i < n → b ≠ A i) → (∀ i, i < n → (kv i).ownBlock ≠ some b) → w'.heap[b]? = w.heap[b]?
section
variable {n base : Nat} {A : Nat → Nat} {kv : Nat → Value} {F : Frs} {a b c : World}
theorem FUp.refl (n : Nat) (A : Nat → Nat) (kv : Nat → Value) (w : World) : FUp n A kv w w := ⟨rfl, rfl, rfl, Nat.le_refl _, fun _ _ _ _ => rfl⟩
theorem FUp.trans (h : FUp n A kv a b) (k : FUp n A kv b c) : FUp n A kv a c :=
  ⟨k.os.trans h.os, k.tape.trans h.tape, k.output.trans h.output, Nat.le_trans h.size k.size, fun j hj h1 h2 => (k.block j (Nat.lt_of_lt_of_le hj h.size) h1 h2).trans (h.block j hj h1 h2)⟩
theorem FUp.of_up (h : Up a b) : FUp n A kv a b := ⟨h.os, h.tape, h.output, h.size, fun j hj _ _ => Below.block h j hj⟩
theorem FUp.below (h : FUp n A kv a b) (hF : FAt base n A kv F a) (hb : base ≤ a.heap.size) : Below base a b :=
  ⟨h.os, h.tape, h.output, h.size, fun j hj => h.block j (by omega) (fun i hi e => by have := hF.lo i hi; omega) (fun i hi e => by have := (hF.ownlt hi e).1; omega)⟩
end
set_option maxRecDepth 100000 in
set_option maxHeartbeats 400000 in
theorem sorted1_t (w : World) (bx m0 x y : Nat) (l : List (Option Nat × Value)) (sx sy : ByteArray) (hbx : w.cell? ⟨bx, 0, none⟩ = some (.map (some m0))) (hm : PMap w m0 l) (hok : ∀ z ∈ l, okKey w z.1) (hx : Plain w x) (hy : Plain w y)
    (h1 : l.lookup (some x) = some (.string sx)) (h2 : l.lookup (some y) = some (.string sy)) :
    Calls Tryz.prog 203 #[.pointer (some ⟨x, 0, none⟩), .pointer (some ⟨y, 0, none⟩), .pointer (some ⟨bx, 0, none⟩)] w fun e w' => e = .returned (.int .i64 (cmpS sx sy)) ∧ w = w' := by
  have g1 := run_pget (P := Tryz.prog) Tryz.underlying217 Tryz.underlying113 Tryz.sizeNd hm (k := some x) hx hok h1
  have g2 := run_pget (P := Tryz.prog) Tryz.underlying217 Tryz.underlying113 Tryz.sizeNd hm (k := some y) hy hok h2
  simp only [pk] at g1 g2
  clear hm hok hx hy h1 h2
  go_enter Tryz.func203, Tryz.ntmps203
  go_wp2_with (go_at_call 204; refine (Tryz.strings_Compare sx sy _).mono ?_; rintro e w' ⟨rfl, rfl⟩)
  go_ret
  exact ⟨rfl, rfl⟩
end Go.Proofs.YtpjijbophjdgaaaGreat
namespace Go.Proofs
open Go.Shelf
def Tryz.sortNode_ren : Go.Shelf.Ren := ⟨fun | 6 => 202 | 15 => 89 | 14 => 231 | 28 => 168 | 29 => 169 | 20 => 239 | 21 => 240 | 22 => 241 | 23 => 242 | 24 => 243 | 25 => 244 | 26 => 245 | 27 => 246 | 46 => 251 | 47 => 198 | 48 => 199 | 49 => 252 | 50 => 253 | 57 => 254 | n => n, fun | 22 => 111 | 24 => 113 | 25 => 219 | 3 => 3 | 39 => 106 | 0 => 0 | 53 => 187 | 55 => 81 | 4 => 4 | 46 => 180 | 45 => 179 | 50 => 184 | 5 => 5 | 9 => 9 | 66 => 211 | 70 => 215 | 76 => 236 | 77 => 237 | n => n, fun | n => n⟩
theorem Tryz.sortNode : Go.Proofs.SlLaysF.n6 Tryz.prog Tryz.sortNode_ren := {
  mixed := by kernel_rfl
  f6 := ⟨Tryz.f202.name, by decide, Tryz.func202.trans (congrArg some (by kernel_rfl))⟩
  f14 := ⟨Tryz.f231.name, by decide, Tryz.func231.trans (congrArg some (by kernel_rfl))⟩
  f15 := Tryz.func89.trans (congrArg some (by kernel_rfl))
  f20 := ⟨Tryz.f239.name, by decide, Tryz.func239.trans (congrArg some (by kernel_rfl))⟩
  f21 := ⟨Tryz.f240.name, by decide, Tryz.func240.trans (congrArg some (by kernel_rfl))⟩
  f22 := ⟨Tryz.f241.name, by decide, Tryz.func241.trans (congrArg some (by kernel_rfl))⟩
  f23 := ⟨Tryz.f242.name, by decide, Tryz.func242.trans (congrArg some (by kernel_rfl))⟩
  f24 := ⟨Tryz.f243.name, by decide, Tryz.func243.trans (congrArg some (by kernel_rfl))⟩
  f25 := ⟨Tryz.f244.name, by decide, Tryz.func244.trans (congrArg some (by kernel_rfl))⟩
  f26 := ⟨Tryz.f245.name, by decide, Tryz.func245.trans (congrArg some (by kernel_rfl))⟩
  f27 := ⟨Tryz.f246.name, by decide, Tryz.func246.trans (congrArg some (by kernel_rfl))⟩
  f28 := Tryz.func168.trans (congrArg some (by kernel_rfl))
  f29 := Tryz.func169.trans (congrArg some (by kernel_rfl))
  f46 := ⟨Tryz.f251.name, by decide, Tryz.func251.trans (congrArg some (by kernel_rfl))⟩
  f47 := Tryz.func198.trans (congrArg some (by kernel_rfl))
  f48 := Tryz.func199.trans (congrArg some (by kernel_rfl))
  f49 := ⟨Tryz.f252.name, by decide, Tryz.func252.trans (congrArg some (by kernel_rfl))⟩
  f50 := ⟨Tryz.f253.name, by decide, Tryz.func253.trans (congrArg some (by kernel_rfl))⟩
  f57 := ⟨Tryz.f254.name, by decide, Tryz.func254.trans (congrArg some (by kernel_rfl))⟩
  t0 := Tryz.underlying0
  a0 := Tryz.isAgg0
  z0 := Tryz.sizeOf0
  v0 := Tryz.zeroValue0
  t3 := Tryz.underlying3
  a3 := Tryz.isAgg3
  z3 := Tryz.sizeOf3
  v3 := Tryz.zeroValue3
  t4 := Tryz.underlying4
  a4 := Tryz.isAgg4
  z4 := Tryz.sizeOf4
  v4 := Tryz.zeroValue4
  t5 := Tryz.underlying5
  a5 := Tryz.isAgg5
  z5 := Tryz.sizeOf5
  v5 := Tryz.zeroValue5
  t9 := Tryz.underlying9
  a9 := Tryz.isAgg9
  z9 := Tryz.sizeOf9
  v9 := Tryz.zeroValue9
  t22 := Tryz.underlying111
  a22 := Tryz.isAgg111
  z22 := Tryz.sizeOf111
  v22 := Tryz.zeroValue111
  a24 := Tryz.isAgg113
  z24 := Tryz.sizeOf113
  t25 := Tryz.underlying219
  a25 := Tryz.isAgg219
  z25 := Tryz.sizeOf219
  v25 := Tryz.zeroValue219
  t39 := Tryz.underlying106
  a39 := Tryz.isAgg106
  z39 := Tryz.sizeOf106
  v39 := Tryz.zeroValue106
  t45 := Tryz.underlying179
  a45 := Tryz.isAgg179
  z45 := Tryz.sizeOf179
  v45 := Tryz.zeroValue179
  t46 := Tryz.underlying180
  a46 := Tryz.isAgg180
  z46 := Tryz.sizeOf180
  v46 := Tryz.zeroValue180
  t50 := Tryz.underlying184
  a50 := Tryz.isAgg184
  z50 := Tryz.sizeOf184
  v50 := Tryz.zeroValue184
  t53 := Tryz.underlying187
  a53 := Tryz.isAgg187
  z53 := Tryz.sizeOf187
  v53 := Tryz.zeroValue187
  t55 := Tryz.underlying81
  a55 := Tryz.isAgg81
  z55 := Tryz.sizeOf81
  v55 := Tryz.zeroValue81
  t66 := Tryz.underlying211
  a66 := Tryz.isAgg211
  z66 := Tryz.sizeOf211
  v66 := Tryz.zeroValue211
  t70 := Tryz.underlying215
  a70 := Tryz.isAgg215
  z70 := Tryz.sizeOf215
  v70 := Tryz.zeroValue215
  t76 := Tryz.underlying236
  a76 := Tryz.isAgg236
  z76 := Tryz.sizeOf236
  v76 := Tryz.zeroValue236
  t77 := Tryz.underlying237
  a77 := Tryz.isAgg237
  z77 := Tryz.sizeOf237
  v77 := Tryz.zeroValue237 }
end Go.Proofs
namespace Go.Proofs.YtpjijbophjdgaaaGreat
open Go.RowKit Go.Deep Go.Sort Go.Shelf Go.Lib
section
variable {α : Type} [Inhabited α] {enc : α → Value}
theorem take_put (cur : Array Value) (ts : List α) (h : ts.length ≤ cur.size) : (putCells enc 0 ts.toArray cur).toList.take ts.length = ts.map enc := by
  apply List.ext_getElem?
  intro j
  by_cases hj : j < ts.length
  · rw [List.getElem?_take_of_lt hj, Array.getElem?_toList]
    simp [putCells, hj, show j < cur.size by omega]
  · rw [List.getElem?_take_eq_none (by omega), List.getElem?_eq_none (by simp; omega)]
theorem sortWorld_size (w : World) (g n : Nat) (d : Array α) (os : Array Obj) : w.heap.size ≤ (sortWorld enc w g 0 n d os).heap.size := by
  simp [sortWorld, grow, putRow, mapBlock, Sort.ahead]
theorem sortWorld_other {w : World} {g n : Nat} {d : Array α} {os : Array Obj} {b : Nat} (h : b ≠ g) (hl : b < w.heap.size) : (sortWorld enc w g 0 n d os).heap[b]? = w.heap[b]? := by
  unfold sortWorld
  rw [heap_grow_old _ _ (by simpa [putRow, mapBlock, Sort.ahead] using hl)]
  simp [putRow, mapBlock, Sort.ahead, Array.getElem?_modify, Ne.symm h]
theorem sortWorld_row {w : World} {g n : Nat} {d : Array α} {os : Array Obj} {cur : Array Value} {e : TypeId} {fr : Nat × Nat} (hb : w.heap[g]? = some (.cells cur e fr)) :
    (sortWorld enc w g 0 n d os).heap[g]? = some (.cells (putCells enc 0 d cur) e fr) := by
  have hg : g < w.heap.size := (Array.getElem?_eq_some_iff.1 hb).1
  unfold sortWorld
  rw [heap_grow_old _ _ (by simpa [putRow, mapBlock, Sort.ahead] using hg)]
  simp [putRow, mapBlock, Sort.ahead, Array.getElem?_modify, hb, onCells]
end
theorem Owns.sorted {α : Type} [Inhabited α] {enc : α → Value} {base g cap n : Nat} {e : TypeId} {w : World} {os : Array Obj} {vs : List Value} {ts : List α} (h : Owns base e w (.slice (some ⟨g, 0, none⟩) vs.length cap) vs) (hl : ts.length = vs.length) :
    Owns base e (sortWorld enc w g 0 n ts.toArray os) (.slice (some ⟨g, 0, none⟩) vs.length cap) (ts.map enc) := by
  obtain ⟨_, ⟨h1, _⟩ | ⟨g', cap', cur, hs, hg, hc, hn, hcm, hcs, ht⟩⟩ := h
  · cases h1
  · injection hs with hs1 hs2 hs3
    injection hs1 with hs1
    injection hs1 with hs1
    subst hs1; subst hs3
    refine ⟨by simp, .inr ⟨g, cap, putCells enc 0 ts.toArray cur, by simp [hl], hg, sortWorld_row hc, by simp [hl]; exact hn, hcm, by simpa [putCells] using hcs, ?_⟩⟩
    rw [List.length_map, Nat.mul_one]
    exact take_put cur ts (by omega)
theorem ltOf_cmp (f : Nat → ByteArray) {L : List Nat} : SWO (ltOf fun (x y : {k // k ∈ L}) => cmpS (f x.1) (f y.1)) where
  irrefl x := by simp [ltOf, cmpS_self]
  trans x y z h1 h2 := by
    simp only [ltOf, decide_eq_true_eq] at *
    exact cmpS_trans h1 h2
  ntrans x y z h1 h2 := by
    simp only [ltOf, decide_eq_false_iff_not] at *
    intro h3
    by_cases e : cmpS (f x.1) (f y.1) = 0
    · rw [cmpS_zero e] at h3; exact h2 h3
    · have h4 : cmpS (f y.1) (f x.1) < 0 := by have := cmpS_anti (f x.1) (f y.1); omega
      exact h2 (cmpS_trans h4 h3)
def SnPost (n base : Nat) (A : Nat → Nat) (kv : Nat → Value) (F : Frs) (w : World) (i : Nat) (l : List Nat) (e : Ending) (w' : World) : Prop :=
  e = .returned (.tuple #[]) ∧ FAt base n A kv { F with kids := upd F.kids i l } w' ∧ FUp n A kv w w'
theorem FAt.plain {base n : Nat} {A : Nat → Nat} {kv : Nat → Value} {F : Frs} {w : World} (h : FAt base n A kv F w) {i : Nat} (hi : i < n) : Plain w (A i) := ⟨_, _, h.node i hi, by simp⟩
theorem Plain.of_block {w w' : World} {b : Nat} (h : Plain w b) (e : w'.heap[b]? = w.heap[b]?) : Plain w' b := by
  obtain ⟨c, t, h1, h2⟩ := h
  exact ⟨c, t, by rw [e]; exact h1, h2⟩
theorem PMap.of_block {w w' : World} {b : Nat} {l : List (Option Nat × Value)} (h : PMap w b l) (e : w'.heap[b]? = w.heap[b]?) : PMap w' b l := by
  obtain ⟨es, c, h1, h2⟩ := h
  exact ⟨es, c, by rw [e]; exact h1, h2⟩
theorem PMap.lt {w : World} {b : Nat} {l : List (Option Nat × Value)} (h : PMap w b l) : b < w.heap.size := by
  obtain ⟨es, c, h1, h2⟩ := h
  exact (Array.getElem?_eq_some_iff.1 h1).1
set_option maxRecDepth 100000 in
set_option maxHeartbeats 800000 in
theorem sortNodes_t {base n : Nat} {A : Nat → Nat} {kv : Nat → Value} {F : Frs} {w : World} (hF : FAt base n A kv F w) {i g cap : Nat} (hi : i < n) (hv : kv i = .slice (some ⟨g, 0, none⟩) (F.kids i).length cap) (h0 : F.kids i ≠ []) (hlen : (F.kids i).length ≤ 1000000)
    (f : Nat → ByteArray) (hs : Sep f (F.kids i)) {bx m0 : Nat} {l : List (Option Nat × Value)} (hbx : w.cell? ⟨bx, 0, none⟩ = some (.map (some m0))) (hm : PMap w m0 l) (hgb : g ≠ bx) (hgm : g ≠ m0)
    (hl : ∀ k ∈ F.kids i, l.lookup (some (A k)) = some (.string (f k))) (hok : ∀ z ∈ l, ∃ k, k < n ∧ z.1 = some (A k)) :
    Calls Tryz.prog 202 #[kv i, .func (.func 203) #[] #[.pointer (some ⟨bx, 0, none⟩)]] w (SnPost n base A kv F w i (srtBy f (F.kids i))) := by
  obtain ⟨k0, hk0⟩ : ∃ k, k ∈ F.kids i := List.exists_mem_of_ne_nil _ h0
  letI : Inhabited {k // k ∈ F.kids i} := ⟨⟨k0, hk0⟩⟩
  have hown := hF.own i hi
  rw [hv] at hown
  have hgo : (kv i).ownBlock = some g := by rw [hv]; rfl
  have hgl := (hF.ownlt hi hgo).2
  have hAg : ∀ j, j < n → A j ≠ g := fun j hj e => hF.apart i j hi hj (by rw [hgo, e])
  have eg : ∀ args w, (callFunc 203 args).run Tryz.prog w = .ok (.enter 203 args) w := enters_of Tryz.func203 (by kernel_rfl) rfl
  have hsize : ((F.kids i).attach.toArray).size = (F.kids i).length := by simp
  have hmlen : ((F.kids i).map (nptr A)).length = (F.kids i).length := by simp
  have hH : Holds (fun (x : {k // k ∈ F.kids i}) => nptr A x.1) w g 0 (F.kids i).attach.toArray := by
    intro j hj
    rw [hsize] at hj
    obtain ⟨p, c, e, _, H⟩ := hown.slAt.open
    injection e with e1
    subst e1
    obtain ⟨b, off, e, hc⟩ := H j (by rw [hmlen]; exact hj)
    injection e with e
    injection e with e1 e2
    subst e1; subst e2
    refine ⟨?_, ?_⟩
    · rw [hc, getElem!_pos _ _ (by simpa using hj)]; simp [hj]
    · obtain ⟨_, ⟨h1, _⟩ | ⟨g', cap', cur, hs', _, hc', _⟩⟩ := hown
      · cases h1
      · injection hs' with hs1
        injection hs1 with hs1
        injection hs1 with hs1
        subst hs1
        simp [World.frozen?, hc']
  have hcmp : CmpLays1 Tryz.prog 203 #[.pointer (some ⟨bx, 0, none⟩)] (fun (x : {k // k ∈ F.kids i}) => nptr A x.1) (fun x y => cmpS (f x.1) (f y.1)) g 0 (F.kids i).attach.toArray.size w := by
    intro m os dk hdk x y
    have hx := hF.kid i hi x.1 x.2
    have hy := hF.kid i hi y.1 y.2
    have hbl : bx < w.heap.size := World.block_lt_of_cell? w _ hbx
    have h1 : (sortWorld (fun (x : {k // k ∈ F.kids i}) => nptr A x.1) w g 0 m dk os).cell? ⟨bx, 0, none⟩ = some (.map (some m0)) := by
      rw [World.cell?_of_block (a := ⟨bx, 0, none⟩) (sortWorld_other (Ne.symm hgb) hbl)]; exact hbx
    refine (sorted1_t _ bx m0 (A x.1) (A y.1) l (f x.1) (f y.1) h1 (hm.of_block (sortWorld_other (Ne.symm hgm) hm.lt)) (fun z hz => ?_)
      ((hF.plain hx).of_block (sortWorld_other (hAg _ hx) (hF.lt hx))) ((hF.plain hy).of_block (sortWorld_other (hAg _ hy) (hF.lt hy))) (hl x.1 x.2) (hl y.1 y.2)).mono fun e w' ⟨he, hw⟩ => ⟨he, 0, #[], by rw [← hw, grow_empty]; rfl⟩
    obtain ⟨k, hk, e⟩ := hok z hz
    rw [e]
    exact (hF.plain hk).of_block (sortWorld_other (hAg _ hk) (hF.lt hk))
  have hcon := Any.slices_SortFunc_total Tryz.sortNode (fun (x : {k // k ∈ F.kids i}) => nptr A x.1) (fun _ => rfl) (fun x y => cmpS (f x.1) (f y.1)) (ltOf_cmp f) 203 #[.pointer (some ⟨bx, 0, none⟩)] g 0 cap (F.kids i).attach.toArray w eg hcmp hH hgl (by rw [hsize]; omega)
    (fun x y h1 h2 => by
      simp only [ltOf, decide_eq_false_iff_not] at h1 h2
      have h3 : cmpS (f x.1) (f y.1) = 0 := by have := cmpS_anti (f x.1) (f y.1); omega
      exact Subtype.ext (hs x.1 x.2 y.1 y.2 (cmpS_zero h3)))
  rw [hsize, ← hv] at hcon
  refine hcon.mono fun e w' ⟨he, m, os, hw⟩ => ⟨he, ?_, ?_⟩
  · have hsrt : (((F.kids i).attach.toArray.toList.mergeSort fun x y => !(ltOf fun (x y : {k // k ∈ F.kids i}) => cmpS (f x.1) (f y.1)) y x).map fun x => x.1) = srtBy f (F.kids i) := by
      have h := List.map_mergeSort (f := fun (x : {k // k ∈ F.kids i}) => x.1) (r := fun x y => !(ltOf fun (x y : {k // k ∈ F.kids i}) => cmpS (f x.1) (f y.1)) y x) (s := leB f) (l := (F.kids i).attach) (fun a _ b _ => by
        simp only [ltOf, leB]
        have := cmpS_anti (f a.1) (f b.1)
        by_cases h : cmpS (f a.1) (f b.1) ≤ 0
        · rw [decide_eq_true h]; simp; omega
        · rw [decide_eq_false h]; simp; omega)
      rw [List.toList_toArray]
      rw [h, List.attach_map_subtype_val]
      rfl
    have ho : Owns base 113 w' (kv i) ((srtBy f (F.kids i)).map (nptr A)) := by
      rw [hv, hw, ← hsrt, List.map_map]
      have h := Owns.sorted (enc := fun (x : {k // k ∈ F.kids i}) => nptr A x.1) (n := m) (os := os) (ts := ((F.kids i).attach.toArray.toList.mergeSort fun x y => !(ltOf fun (x y : {k // k ∈ F.kids i}) => cmpS (f x.1) (f y.1)) y x)) (vs := (F.kids i).map (nptr A)) (by rw [hmlen]; exact hown) (by simp)
      rw [hmlen] at h
      exact h
    have hsame : ∀ b, b ≠ g → b < w.heap.size → w'.heap[b]? = w.heap[b]? := fun b hb hbl => by rw [hw]; exact sortWorld_other hb hbl
    have h2 := hF.put (w' := w') (k := i) (v := kv i) (ks := srtBy f (F.kids i)) hi (fun j hj _ => hsame _ (hAg j hj) (hF.lt hj)) (by rw [hsame _ (hAg i hi) (hF.lt hi)]; exact hF.node i hi) ho
      (fun j b hj hji hb => hsame b (fun e => hji (hF.alone j i b hj hi hb (by rw [hgo, e]))) (hF.ownlt hj hb).2) (fun b hb => .inl hb) (fun j hj => hF.kid i hi j ((srtBy_perm _ _).mem_iff.1 hj))
    have hkv : upd kv i (kv i) = kv := by
      funext j; by_cases e : j = i
      · subst e; exact upd_same _ _ _
      · exact upd_ne _ _ e
    rw [hkv] at h2
    exact h2
  · rw [hw]
    exact ⟨rfl, rfl, rfl, sortWorld_size _ _ _ _ _, fun b hb _ h2 => sortWorld_other (fun e => h2 i hi (by rw [hgo, e])) hb⟩
end Go.Proofs.YtpjijbophjdgaaaGreat
