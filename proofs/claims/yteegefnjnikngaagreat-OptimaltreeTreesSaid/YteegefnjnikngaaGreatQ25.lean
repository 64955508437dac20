/- Maps whose keys are strings. The law's names: A, B, .. The contract of slices.Sort at .. -/
import Derived.Test.YteegefnjnikngaaGreatQ8
import Derived.Test.YteegefnjnikngaaGreatQ22
import Derived.Laws.IdiomStrings
import Derived.Shelf.SlGeneric
import Derived.Shelf.SlLaysM
import Derived.Ground.SlgmProg
import Derived.Test.YteegefnjnikngaaGreatProg
import Derived.Test.YteegefnjnikngaaGreatQ18
import Derived.Test.YteegefnjnikngaaGreatQ23
import Derived.Test.YteegefnjnikngaaGreatQ24
import Derived.Test.YteegefnjnikngaaGreatQ20
import Derived.Test.YteegefnjnikngaaGreatQ7
import Derived.Test.YteegefnjnikngaaGreatQ2
import Derived.Test.YteegefnjnikngaaGreatQ6
import Derived.Test.YteegefnjnikngaaGreatQ1
import Derived.Shelf.SortM.Plain
import Derived.Shelf.SortM.SortNone
import Derived.Sort.OwnSortedInts
set_option maxRecDepth 100000
namespace Go.Proofs.YteegefnjnikngaaGreat
section
open Go.RowKit Go.Deep
def o6 (l : List (ByteArray × Value)) (k : ByteArray) (v : Value) : List (ByteArray × Value) := if (l.lookup k).isNone then l ++ [(k, v)] else l.map fun x => if x.1 = k then (k, v) else x
def SMap (w : World) (b : Nat) (l : List (ByteArray × Value)) : Prop := ∃ es clock, w.heap[b]? = some (.map es clock) ∧ es.toList.map (fun x => (x.key, x.val)) = l.map (fun x => (Value.string x.1, x.2))
def sS (l : List (ByteArray × Value)) : Prop := (l.map (·.1)).Nodup
theorem K2 (a b : ByteArray) : (a == b) = decide (a = b) := by
 obtain ⟨a⟩ := a
 obtain ⟨b⟩ := b
 have : ((⟨a⟩ : ByteArray) == ⟨b⟩) = (a == b) := rfl
 rw [this]
 by_cases h : a = b
 ·subst h; simp
 ·have h2 : ¬ (⟨a⟩ : ByteArray) = ⟨b⟩ := fun e => h (ByteArray.mk.inj e)
  rw [decide_eq_false h2]; simpa using h
theorem mB (a : ByteArray) : (a == a) = true := by rw [K2]; simp
theorem nV {a b : ByteArray} (h : ¬ a = b) : (a == b) = false := by rw [K2]; simpa using h
section
variable {P : Program} {w : World}
theorem K3 (k : ByteArray) : ∀ (es : List MapEntry) (l : List (ByteArray × Value)) (i : Nat),
  es.map (fun x => (x.key, x.val)) = l.map (fun x => (Value.string x.1, x.2)) →
   (l.lookup k = none ∧ Instr.findNow .string (.string k) es i = some none) ∨ ∃ j v, l.lookup k = some v ∧ (l[j]?).map (·.1) = some k ∧ Instr.findNow .string (.string k) es i = some (some (i + j, v)) := by
 intro es
 induction es with
 | nil =>
  intro l i hl
  cases l with
  | nil => exact .inl ⟨rfl, rfl⟩
  | cons => cases hl
 | cons x es ih =>
  intro l i hl
  cases l with
  | nil => cases hl
  | cons y l =>
   simp only [List.map_cons, List.cons.injEq, Prod.mk.injEq] at hl
   obtain ⟨⟨h1, h2⟩, h3⟩ := hl
   obtain ⟨y1, y2⟩ := y
   have h1 : x.key = .string y1 := h1
   have h2 : x.val = y2 := h2
   by_cases h : k = y1
   ·subst h
    refine .inr ⟨0, y2, by rw [List.lookup_cons, mB], rfl, ?_⟩
    simp [Instr.findNow, Instr.sameNow, h1, h2, mB]
   ·have hb : (k == y1) = false := nV h
    rcases ih l (i + 1) h3 with ⟨h4, h5⟩ | ⟨j, v, h4, h5, h6⟩
    ·refine .inl ⟨by rw [List.lookup_cons, hb]; exact h4, ?_⟩
     simp [Instr.findNow, Instr.sameNow, h1, hb, h5]
    ·refine .inr ⟨j + 1, v, by rw [List.lookup_cons, hb]; exact h4, by simpa using h5, ?_⟩
     simp [Instr.findNow, Instr.sameNow, h1, hb, h6]; omega
theorem Bo {t : TypeId} (ht : P.underlying t = some .string) (k : ByteArray) (es : List MapEntry) (l : List (ByteArray × Value)) (hl : es.map (fun x => (x.key, x.val)) = l.map (fun x => (Value.string x.1, x.2))) :
  (l.lookup k = none ∧ (Instr.findKey t (.string k) es).run P w = .ok none w) ∨ ∃ j v, l.lookup k = some v ∧ (l[j]?).map (·.1) = some k ∧ (Instr.findKey t (.string k) es).run P w = .ok (some (j, v)) w := by
 have hu := run_underlying (w := w) ht
 rcases K3 k es l 0 hl with ⟨h1, h2⟩ | ⟨j, v, h1, h2, h3⟩
 ·exact .inl ⟨h1, by simp [Instr.findKey, hu, h2]⟩
 ·exact .inr ⟨j, v, h1, h2, by simp [Instr.findKey, hu, h3]⟩
theorem nW {t : TypeId} (ht : P.underlying t = some .string) (em : Bool) (k : ByteArray) : (Instr.checkKey em 10000 t (.string k)).run P w = .ok () w := by
 have hu := run_underlying (w := w) ht
 show (Instr.checkKey em (9999 + 1) t (.string k)).run P w = _
 unfold Instr.checkKey
 simp [hu]
theorem D1 {l : List (ByteArray × Value)} {k : ByteArray} : l.lookup k = none ↔ k ∉ l.map (·.1) := by
 induction l with
 | nil => simp
 | cons y l ih =>
  obtain ⟨y1, y2⟩ := y
  rw [List.lookup_cons]
  by_cases h : k = y1
  ·subst h; simp [mB]
  ·have hb : (k == y1) = false := nV h
   rw [hb]; simp only [List.map_cons, List.mem_cons, not_or]
   exact ⟨fun h2 => ⟨h, ih.1 h2⟩, fun h2 => ih.2 h2.2⟩
theorem K4 (l : List (ByteArray × Value)) (k : ByteArray) (v : Value) : (o6 l k v).map (·.1) = if (l.lookup k).isNone then l.map (·.1) ++ [k] else l.map (·.1) := by
 unfold o6
 split
 ·simp
 ·rw [List.map_map]
  refine List.map_congr_left fun x _ => ?_
  show (if x.1 = k then (k, v) else x).1 = x.1
  split
  ·rename_i h; exact h.symm
  ·rfl
theorem K5 {l : List (ByteArray × Value)} (h : sS l) (k : ByteArray) (v : Value) : sS (o6 l k v) := by
 unfold sS
 rw [K4]
 split
 ·rename_i h2
  have h3 : k ∉ l.map (·.1) := D1.1 (by simpa using h2)
  rw [List.nodup_append]
  refine ⟨h, by simp, fun a ha b hb => ?_⟩
  have : b = k := by simpa using hb
  subst this
  exact fun e => h3 (by rw [← e]; exact ha)
 ·exact h
theorem K6 {l : List (ByteArray × Value)} (h : sS l) {k : ByteArray} (v : Value) {j : Nat} (hj : (l[j]?).map (·.1) = some k) : (l.map fun x => if x.1 = k then (k, v) else x) = l.set j (k, v) := by
 apply List.ext_getElem?
 intro m
 have hjl : j < l.length := by
  cases hlj : l[j]? with
  | none => rw [hlj] at hj; cases hj
  | some y => exact (List.getElem?_eq_some_iff.1 hlj).1
 rw [List.getElem?_map, List.getElem?_set]
 by_cases e : j = m
 ·subst e
  rw [if_pos rfl, if_pos hjl]
  rw [List.getElem?_eq_getElem hjl] at hj ⊢
  have h3 : (l[j]).1 = k := by simpa using hj
  simp [h3]
 ·rw [if_neg e]
  cases hm : l[m]? with
  | none => rfl
  | some y =>
   have hml := (List.getElem?_eq_some_iff.1 hm).1
   have hne : y.1 ≠ k := fun h4 => by
    have h5 : (l.map (·.1))[m]? = (l.map (·.1))[j]? := by rw [List.getElem?_map, List.getElem?_map, hm, hj]; simp [h4]
    have h6 : m < (l.map (·.1)).length := by simpa using hml
    have h7 : j < (l.map (·.1)).length := by simpa using hjl
    rw [List.getElem?_eq_getElem h6, List.getElem?_eq_getElem h7] at h5
    injection h5 with h5
    exact e ((List.getElem_inj h).1 h5).symm
   simp [hne]
theorem SMap.made (w : World) : SMap (w.alloc (.map #[] 0)) w.heap.size [] := ⟨#[], 0, (MapKept.heap_alloc w _).1, rfl⟩
theorem SMap.same {w' : World} {b : Nat} {l : List (ByteArray × Value)} (h : SMap w b l) (hb : w'.heap[b]? = w.heap[b]?) : SMap w' b l := by
 obtain ⟨es, clock, h1, h2⟩ := h
 exact ⟨es, clock, hb.trans h1, h2⟩
theorem SMap.lt {b : Nat} {l : List (ByteArray × Value)} (h : SMap w b l) : b < w.heap.size := by
 obtain ⟨es, clock, h1, _⟩ := h
 exact (Array.getElem?_eq_some_iff.1 h1).1
theorem NH {mt t el : TypeId} (hm : P.underlying mt = some (.map t el)) (ht : P.underlying t = some .string) {b : Nat} {l : List (ByteArray × Value)} (h : SMap w b l) (hq : sS l) (k : ByteArray) (v : Value) :
  ∃ w', (Instr.mapUpdate mt (.map (some b)) (.string k) v).run P w = .ok () w' ∧ SMap w' b (o6 l k v) ∧ w'.heap.size = w.heap.size ∧ w'.os = w.os ∧ w'.tape = w.tape ∧ w'.output = w.output ∧ ∀ j, j ≠ b → w'.heap[j]? = w.heap[j]? := by
 obtain ⟨es, clock, hb, hl⟩ := h
 have hu := run_underlying (w := w) hm
 have hg := MapKept.run_getObj_map (P := P) hb
 have hbl := (Array.getElem?_eq_some_iff.1 hb).1
 rcases Bo (w := w) ht k es.toList l hl with ⟨h1, h2⟩ | ⟨j, v', h1, h5, h2⟩
 ·have hs := MapKept.run_setObj_map (P := P) (.map (es.push { key := .string k, val := v, born := clock }) (clock + 1)) hb
  refine ⟨{ w with heap := w.heap.setIfInBounds b (.map (es.push { key := .string k, val := v, born := clock }) (clock + 1)) }, by simp [Instr.mapUpdate, hu, hg, nW ht, h2, hs], ⟨es.push { key := .string k, val := v, born := clock }, clock + 1, by simp [hbl], ?_⟩, by simp, rfl, rfl, rfl, fun j hj => by simp [Ne.symm hj]⟩
  unfold o6; rw [h1]; simp [hl]
 ·have hkey : ((es[j]?).map (·.key)) = some (.string k) := by
   have h8 := congrArg (fun q => (q[j]?).map (·.1)) hl
   simp only [List.getElem?_map, Option.map_map] at h8
   have h9 : (l[j]?).map (fun x => Value.string x.1) = some (.string k) := by
    cases hlj : l[j]? with
    | none => rw [hlj] at h5; cases h5
    | some y => rw [hlj] at h5; simp at h5; simp [h5]
   have h10 : (es.toList[j]?).map (·.key) = (l[j]?).map (fun x => Value.string x.1) := h8
   rw [← Array.getElem?_toList, h10, h9]
  have hst : (Instr.keyThatStays (((es[j]?).map (·.key)).getD (.string k)) (.string k)).run P w = .ok (.string k) w := by
   rw [hkey]
   have h0 : Instr.sameBits 10000 (.string k) (.string k) = true := by simp [Instr.sameBits, mB]
   show (Instr.keyThatStays (.string k) (.string k)).run P w = _
   unfold Instr.keyThatStays
   rw [if_pos h0]; rfl
  have hs := MapKept.run_setObj_map (P := P) (.map (es.modify j fun e => { e with key := .string k, val := v }) clock) hb
  refine ⟨{ w with heap := w.heap.setIfInBounds b (.map (es.modify j fun e => { e with key := .string k, val := v }) clock) }, by simp [Instr.mapUpdate, hu, hg, nW ht, h2, hst, hs], ⟨es.modify j fun e => { e with key := .string k, val := v }, clock, by simp [hbl], ?_⟩, by simp, rfl, rfl, rfl, fun m hm => by simp [Ne.symm hm]⟩
  have hpl : o6 l k v = l.set j (k, v) := by
   unfold o6; rw [h1]
   exact K6 hq v h5
  rw [hpl]
  apply List.ext_getElem?
  intro m
  have h8 := congrArg (fun q => q[m]?) hl
  simp only [List.getElem?_map] at h8
  rw [List.getElem?_map, List.getElem?_map, Array.getElem?_toList, Array.getElem?_modify, List.getElem?_set]
  have hjl : j < l.length := by
   cases hlj : l[j]? with
   | none => rw [hlj] at h5; cases h5
   | some y => exact (List.getElem?_eq_some_iff.1 hlj).1
  have Te : j < es.size := by have := congrArg List.length hl; simp at this; omega
  by_cases e : j = m
  ·subst e
   rw [if_pos rfl, if_pos rfl, if_pos hjl, Array.getElem?_eq_getElem Te]
   rfl
  ·rw [if_neg e, if_neg e, ← Array.getElem?_toList]; exact h8
theorem K7 {mt t el : TypeId} (hm : P.underlying mt = some (.map t el)) (ht : P.underlying t = some .string) {z : Value} (hz : (zeroValue el).run P w = .ok z w) {b : Nat} {l : List (ByteArray × Value)} (h : SMap w b l) (k : ByteArray) :
  (Instr.lookup mt (.map (some b)) (.string k) false).run P w = .ok ((l.lookup k).getD z) w := by
 obtain ⟨es, clock, hb, hl⟩ := h
 have hu := run_underlying (w := w) hm
 have hg := MapKept.run_getObj_map (P := P) hb
 rcases Bo (w := w) ht k es.toList l hl with ⟨h1, h2⟩ | ⟨j, v', h1, _, h2⟩
 ·simp [Instr.lookup, hu, hg, nW ht, h2, hz, h1]
 ·simp [Instr.lookup, hu, hg, nW ht, h2, h1]
end
end
section
open Go.RowKit Go.Deep
end
end Go.Proofs.YteegefnjnikngaaGreat
namespace Go.Proofs
open Go.Shelf
def Tryz.sortZ_ren : Go.Shelf.Ren := ⟨fun | 5 => 76 | 8 => 137 | 7 => 136 | 19 => 194 | 20 => 195 | 10 => 185 | 11 => 186 | 12 => 187 | 13 => 188 | 14 => 189 | 15 => 190 | 16 => 191 | 17 => 192 | 18 => 193 | 30 => 249 | 31 => 250 | 32 => 251 | 33 => 252 | 34 => 253 | 35 => 141 | 40 => 284 | n => n, fun | 23 => 26 | 25 => 3 | 3 => 3 | 32 => 162 | 22 => 26 | 0 => 0 | 44 => 201 | 46 => 203 | 4 => 4 | 36 => 193 | 35 => 192 | 41 => 198 | 5 => 5 | 9 => 9 | 53 => 250 | 57 => 254 | 63 => 277 | 64 => 187 | n => n, fun | n => n⟩
theorem Tryz.sortZ : Go.Proofs.SlLaysM.n5 Tryz.prog Tryz.sortZ_ren := {
 mixed := by kernel_rfl
 f5 := ⟨Tryz.f76.name, by decide, Tryz.func76.trans (congrArg some (by kernel_rfl))⟩
 f7 := ⟨Tryz.f136.name, by decide, Tryz.func136.trans (congrArg some (by kernel_rfl))⟩
 f8 := Tryz.func137.trans (congrArg some (by kernel_rfl))
 f10 := ⟨Tryz.f185.name, by decide, Tryz.func185.trans (congrArg some (by kernel_rfl))⟩
 f11 := ⟨Tryz.f186.name, by decide, Tryz.func186.trans (congrArg some (by kernel_rfl))⟩
 f12 := ⟨Tryz.f187.name, by decide, Tryz.func187.trans (congrArg some (by kernel_rfl))⟩
 f13 := ⟨Tryz.f188.name, by decide, Tryz.func188.trans (congrArg some (by kernel_rfl))⟩
 f14 := ⟨Tryz.f189.name, by decide, Tryz.func189.trans (congrArg some (by kernel_rfl))⟩
 f15 := ⟨Tryz.f190.name, by decide, Tryz.func190.trans (congrArg some (by kernel_rfl))⟩
 f16 := ⟨Tryz.f191.name, by decide, Tryz.func191.trans (congrArg some (by kernel_rfl))⟩
 f17 := ⟨Tryz.f192.name, by decide, Tryz.func192.trans (congrArg some (by kernel_rfl))⟩
 f18 := ⟨Tryz.f193.name, by decide, Tryz.func193.trans (congrArg some (by kernel_rfl))⟩
 f19 := Tryz.func194.trans (congrArg some (by kernel_rfl))
 f20 := Tryz.func195.trans (congrArg some (by kernel_rfl))
 f30 := ⟨Tryz.f249.name, by decide, Tryz.func249.trans (congrArg some (by kernel_rfl))⟩
 f31 := Tryz.func250.trans (congrArg some (by kernel_rfl))
 f32 := Tryz.func251.trans (congrArg some (by kernel_rfl))
 f33 := ⟨Tryz.f252.name, by decide, Tryz.func252.trans (congrArg some (by kernel_rfl))⟩
 f34 := ⟨Tryz.f253.name, by decide, Tryz.func253.trans (congrArg some (by kernel_rfl))⟩
 f35 := ⟨Tryz.f141.name, by decide, Tryz.func141.trans (congrArg some (by kernel_rfl))⟩
 f40 := ⟨Tryz.f284.name, by decide, Tryz.func284.trans (congrArg some (by kernel_rfl))⟩
 t0 := Tryz.underlying0
 a0 := Tryz.isAgg0
 z0 := Tryz.sizeOf0
 v0 := Tryz.zeroValue0
 t3 := Tryz.underlying3
 a3 := Tryz.isAgg3
 z3 := Tryz.sizeOf3
 v3 := Tryz.zeroValue3
 t4 := Tryz.underlying4
 a4 := Tryz.isAgg4
 z4 := Tryz.sizeOf4
 v4 := Tryz.zeroValue4
 t5 := Tryz.underlying5
 a5 := Tryz.isAgg5
 z5 := Tryz.sizeOf5
 v5 := Tryz.zeroValue5
 t9 := Tryz.underlying9
 a9 := Tryz.isAgg9
 z9 := Tryz.sizeOf9
 v9 := Tryz.zeroValue9
 t22 := Tryz.underlying26
 a22 := Tryz.isAgg26
 z22 := Tryz.sizeOf26
 v22 := Tryz.zeroValue26
 t23 := Tryz.underlying26
 a23 := Tryz.isAgg26
 z23 := Tryz.sizeOf26
 v23 := Tryz.zeroValue26
 t25 := Tryz.underlying3
 a25 := Tryz.isAgg3
 z25 := Tryz.sizeOf3
 v25 := Tryz.zeroValue3
 t32 := Tryz.underlying162
 a32 := Tryz.isAgg162
 z32 := Tryz.sizeOf162
 v32 := Tryz.zeroValue162
 t35 := Tryz.underlying192
 a35 := Tryz.isAgg192
 z35 := Tryz.sizeOf192
 v35 := Tryz.zeroValue192
 t36 := Tryz.underlying193
 a36 := Tryz.isAgg193
 z36 := Tryz.sizeOf193
 v36 := Tryz.zeroValue193
 t41 := Tryz.underlying198
 a41 := Tryz.isAgg198
 z41 := Tryz.sizeOf198
 v41 := Tryz.zeroValue198
 t44 := Tryz.underlying201
 a44 := Tryz.isAgg201
 z44 := Tryz.sizeOf201
 v44 := Tryz.zeroValue201
 t46 := Tryz.underlying203
 a46 := Tryz.isAgg203
 z46 := Tryz.sizeOf203
 v46 := Tryz.zeroValue203
 t53 := Tryz.underlying250
 a53 := Tryz.isAgg250
 z53 := Tryz.sizeOf250
 v53 := Tryz.zeroValue250
 t57 := Tryz.underlying254
 a57 := Tryz.isAgg254
 z57 := Tryz.sizeOf254
 v57 := Tryz.zeroValue254
 t63 := Tryz.underlying277
 a63 := Tryz.isAgg277
 z63 := Tryz.sizeOf277
 v63 := Tryz.zeroValue277
 t64 := Tryz.underlying187
 a64 := Tryz.isAgg187
 z64 := Tryz.sizeOf187
 v64 := Tryz.zeroValue187 }
end Go.Proofs
namespace Go.Proofs.YteegefnjnikngaaGreat
section
section
variable {F G : aL} {n : Nat} {rk : Nat → Nat}
theorem Bp (h : Wf F n rk) {i : Nat} (hi : i < n) (h0 : rk i ≤ 0) : F.kids i = [] := by
 cases hk : F.kids i with
 | nil => rfl
 | cons k l => have := (h.kid i hi k (by rw [hk]; simp)).2; omega
theorem NI (hF : Wf F n rk) (hG : Wf G n rk) : ∀ {d c : Nat}, c < n → rk c ≤ d → (∀ z, bA F rk c z = true → G.kids z = F.kids z) → ∀ z, bA G rk c z = bA F rk c z := by
 intro d
 induction d with
 | zero =>
  intro c hc hd hz z
  rw [fh hF hc, fh hG hc, Bp hF hc hd, Bp hG hc hd]; rfl
 | succ d ih =>
  intro c hc hd hz z
  rw [fh hF hc, fh hG hc, hz c (fV hF hc)]
  congr 1
  rw [Bool.eq_iff_iff, List.any_eq_true, List.any_eq_true]
  have key : ∀ k ∈ F.kids c, bA G rk k z = bA F rk k z := fun k hk => by
   have hkk := hF.kid c hc k hk
   exact ih hkk.1 (by omega) (fun y hy => hz y (ku hF hc hk hy)) z
  constructor
  ·rintro ⟨k, hk, e⟩; exact ⟨k, hk, by rw [← key k hk]; exact e⟩
  ·rintro ⟨k, hk, e⟩; exact ⟨k, hk, by rw [key k hk]; exact e⟩
def crD (F : aL) : Nat → Nat → Nat
 | 0, i => i
 | d + 1, i => match F.kids i with | [k] => crD F d k | _ => i
def cr (F : aL) (rk : Nat → Nat) (i : Nat) : Nat := crD F (rk i) i
end
end
section
open Go.RowKit Go.Deep
def qQ (t : av) : av := flat (ordR (fZ t))
def Um (w : World) (t : av) (e : Ending) (w' : World) : Prop :=
 Up w w' ∧ ((aB t ≠ 0 ∧ e = .returned (.tuple #[.agg #[.slice none 0 0, .slice none 0 0], .int .i64 1])) ∨ (aB t = 0 ∧ ∃ v, e = .returned (.tuple #[v, .int .i64 0]) ∧ ay (fun b => w.heap.size ≤ b) w' v (qQ t)))
set_option maxHeartbeats 2000000 in
theorem NJ (S : Nat → Prop) (w : World) (v : Value) (t : av) (hT : ay S w v t) (hp : t.ps.length ≤ 1000000) (hn : t.ns.length ≤ 1000000) (hz : ∀ k, (gs t.ns k).size ≤ 70000) : Calls Tryz.prog 154 #[v] w (Um w t) := by
 obtain ⟨P, N, rfl, hP, hN⟩ := hT
 have hu := (Up.alloc w (.cells #[P, N] 39)).trans (Up.alloc _ (.cells #[.slice none 0 0, .slice none 0 0] 39))
 have iL : ay S ((w.alloc (.cells #[P, N] 39)).alloc (.cells #[.slice none 0 0, .slice none 0 0] 39)) (.agg #[P, N]) t := ay.keep ⟨P, N, rfl, hP, hN⟩ (hu.kept _)
 have fN := aa (sN S _ _ t iL hp hn hz)
 have HT := aa iL
 have HU := aa hu
 have dR := aa ((Up.alloc _ (.cells #[.slice none 0 0, .slice none 0 0] 39)).cell (dO w P N 39))
 have iu := aa ((Up.alloc _ (.cells #[.slice none 0 0, .slice none 0 0] 39)).cell (dP w P N 39))
 have hc0 := dR.out
 have hc1 := iu.out
 have hrb := fW (w := w.alloc (.cells #[P, N] 39)) (P := .slice none 0 0) (N := .slice none 0 0) (T := 39)
 have hsz : ((w.alloc (.cells #[P, N] 39)).alloc (.cells #[.slice none 0 0, .slice none 0 0] 39)).heap.size = w.heap.size + 2 := by simp
 rw [World.size_alloc] at hrb
 have jJ := aa hrb
 have b5 := aa hsz
 clear hu iL hP hN hrb hsz
 go_enter Tryz.func154, Tryz.ntmps154
 go_wp2_with fail
 generalize (w.alloc (.cells #[P, N] 39)).alloc (.cells #[.slice none 0 0, .slice none 0 0] 39) = w1 at *
 refine fN.out.mono ?_
 rintro e w2 ⟨rfl, hb2⟩
 have aF : Up w1 w2 := hb2
 have hc0 := aF.cell dR.out
 have hc1 := aF.cell iu.out
 have mP := aa (HT.out.keep (aF.kept S))
 have jk := (Below.block aF (w.heap.size + 1) (by rw [b5.out]; omega)).trans jJ.out
 have bE := aa (HU.out.trans aF)
 have jM : Hid (w.heap.size + 2 ≤ w2.heap.size) := by unfold Hid; have := aF.size; rw [b5.out] at this; exact this
 clear hb2 aF fN HT HU dR iu jJ
 by_cases he : aB t = 0
 ·have HE := aa he
  rw [he]
  have gV := aa jk
  have Br := aa (Gw S t he (cB t 0) 0 (Nat.le_refl _) (aI he).1 w2 _ mP.out)
  have hsize := A7 he
  have Un := Bj (fZ t)
  have PG := aa (And.intro hsize Un)
  clear jk he hsize Un
  go_wp2_with fail
  refine Br.out.mono ?_
  rintro e w3 ⟨b9, v3, rfl, hr3⟩
  have dL := aa b9
  have Zs := aa (K0 _ 64 (fZ t) PG.out.1 (by omega) w3 _ hr3)
  clear b9 hr3 Br
  go_wp2_with fail
  refine Zs.out.mono ?_
  rintro e w4 ⟨b6, v4, rfl, hr4⟩
  have jV := aa (dL.out.trans b6)
  have kO := aa (xL _ w4 _ (ordR (fZ t)) hr4 (by have := PG.out; omega))
  have GC : Hid (w.heap.size + 2 ≤ w4.heap.size) := by unfold Hid; have := jV.out.size; have := jM.out; omega
  clear b6 hr4 Zs dL
  go_wp2_with fail
  refine kO.out.mono ?_
  rintro e w5 ⟨iN, _, rfl, P4, N4, rfl, dD, dF⟩
  have dD : ax (fun b => w4.heap.size ≤ b) w5 P4 (qQ t).ps := dD
  have dF : au (fun b => w4.heap.size ≤ b) w5 N4 (qQ t).ns := dF
  obtain ⟨pp, pc, rfl, _, _⟩ := aA.open dD
  obtain ⟨np, nc, rfl, _, _⟩ := aA.open dF
  have gW := (Below.block (jV.out.trans iN) (w.heap.size + 1) (by have := jM.out; omega)).trans gV.out
  have iX : w5.cell? ⟨w.heap.size + 1, 0, none⟩ = some (.slice none 0 0) := by simp [World.cell?, gW]
  have hr1 : w5.cell? ⟨w.heap.size + 1, 1, none⟩ = some (.slice none 0 0) := by simp [World.cell?, gW]
  have Gl : w5.frozen? ⟨w.heap.size + 1, 0, none⟩ = false := by simp [World.frozen?, gW]
  have rD : w5.frozen? ⟨w.heap.size + 1, 1, none⟩ = false := by simp [World.frozen?, gW]
  have AY := aa dD
  have KG := aa dF
  have HST := aa (dg (w := w) (p := .slice pp (qQ t).ps.length pc) (q := .slice np (qQ t).ns.length nc) gW (by omega) (bE.out.trans (jV.out.trans iN)))
  clear dD dF iN gW kO gV hc0 hc1
  go_wp2_with fail
  obtain ⟨s1, s2, s3, s4⟩ := HST.out
  have hs2 := jM.out
  have hs4 := GC.out
  refine ⟨rfl, .tuple #[.agg #[.slice pp (qQ t).ps.length pc, .slice np (qQ t).ns.length nc], .int .i64 0], by simp [results, Tryz.results154, go_sem, s2, s3], ?_⟩
  exact ⟨s1, .inr ⟨HE.out, _, rfl, _, _, rfl, (ax.keep AY.out fun b hb _ => s4 b (by omega)).sub fun b hb _ => by omega, (au.keep KG.out fun b hb _ => s4 b (by omega)).sub fun b hb _ => by omega⟩⟩
 ·have yD : (aB t != 0) = true := by simpa using he
  have iX : w2.cell? ⟨w.heap.size + 1, 0, none⟩ = some (.slice none 0 0) := by simp [World.cell?, jk]
  have hr1 : w2.cell? ⟨w.heap.size + 1, 1, none⟩ = some (.slice none 0 0) := by simp [World.cell?, jk]
  have Gl : w2.frozen? ⟨w.heap.size + 1, 0, none⟩ = false := by simp [World.frozen?, jk]
  have rD : w2.frozen? ⟨w.heap.size + 1, 1, none⟩ = false := by simp [World.frozen?, jk]
  have HST := aa (dg (w := w) (p := .slice none 0 0) (q := .slice none 0 0) jk (by omega) bE.out)
  have HE := aa he
  clear he jk hc0 hc1
  generalize aB t = te at yD ⊢
  go_wp2_with fail
  obtain ⟨s1, s2, s3, s4⟩ := HST.out
  refine ⟨rfl, .tuple #[.agg #[.slice none 0 0, .slice none 0 0], .int .i64 1], by simp [results, Tryz.results154, go_sem, s2, s3], ?_⟩
  exact ⟨s1, .inl ⟨HE.out, rfl⟩⟩
end
section
section
variable {names : List ByteArray} {l : List AV}
theorem NK (names : List ByteArray) : (List.range names.length).map (gs names) = names := by
 refine List.ext_getElem (by simp) fun i h1 h2 => ?_
 simp [gs, h2]
end
end
section
open Go.RowKit Go.Deep
section
variable {P : Program} {ops : Array Oper} {rest : List Oper} {o : Oper} {a : Act} {Q : Exit → Act → World → Prop}
end
end
section
theorem FO {l : List (ByteArray × Value)} {k j : ByteArray} {v : Value} : (o6 l k v).lookup j = if j = k then some v else l.lookup j := by
 unfold o6
 split
 ·rename_i h
  have h0 : l.lookup k = none := by simpa using h
  rw [List.lookup_append]
  by_cases e : j = k
  ·subst e; rw [if_pos rfl, h0]; simp [List.lookup, mB]
  ·rw [if_neg e]
   have : List.lookup j [(k, v)] = none := by simp [List.lookup, nV e]
   rw [this]; simp
 ·rename_i h
  have h0 : (l.lookup k).isSome := by
   cases hl : l.lookup k with
   | none => rw [hl] at h; exact absurd rfl h
   | some x => rfl
  clear h
  induction l with
  | nil => cases h0
  | cons y l ih =>
   obtain ⟨y1, y2⟩ := y
   rw [List.map_cons]
   by_cases e1 : y1 = k
   ·subst e1
    rw [if_pos rfl, List.lookup_cons]
    by_cases e : j = y1
    ·subst e; rw [mB, if_pos rfl]
    ·rw [nV e, if_neg e, List.lookup_cons, nV e]
     have hm : ∀ l : List (ByteArray × Value), List.lookup j (l.map fun x => if x.1 = y1 then (y1, v) else x) = List.lookup j l := by
      intro l
      induction l with
      | nil => rfl
      | cons z l ihl =>
       obtain ⟨z1, z2⟩ := z
       rw [List.map_cons]
       by_cases ez : z1 = y1
       ·subst ez; rw [if_pos rfl, List.lookup_cons, nV e, List.lookup_cons, nV e]; exact ihl
       ·rw [if_neg ez, List.lookup_cons, List.lookup_cons, ihl]
     exact hm l
   ·rw [if_neg e1, List.lookup_cons, List.lookup_cons]
    rw [List.lookup_cons, nV (fun h => e1 h.symm)] at h0
    by_cases e : j = y1
    ·subst e; rw [mB, if_neg e1]
    ·rw [nV e]; exact ih h0
end
section
open Go.RowKit Go.Deep
end
section
open Go.RowKit Go.Shelf Go.Deep
section
variable {P : Program} {C : World → Prop}
end
end
section
open Go.RowKit Go.Shelf Go.Deep Go.Sort
def gM (xs : List Int) : List Int := xs.mergeSort fun x y => decide (x ≤ y)
theorem uM (xs : List Int) : (gM xs).length = xs.length := List.length_mergeSort _
theorem Uo (w w1 : World) (v : Value) (xs : List Int) (hu : Up w w1) (ho : az w.heap.size 3 w1 v (xs.map (Value.int .i64))) (hlen : xs.length ≤ 1000000) :
  Calls Tryz.prog 76 #[v] w1 fun e w' => e = .returned (.tuple #[]) ∧ Up w w' ∧ az w.heap.size 3 w' v ((gM xs).map (Value.int .i64)) := by
 rcases ho.2 with ⟨rfl, h0⟩ | ⟨g, cap, cur, rfl, hg, hc, hn, hcm, hcs, ht⟩
 ·have hx : xs = [] := by cases xs with | nil => rfl | cons _ _ => simp at h0
  subst hx
  refine (AnyM.slices_Sort_int_none Tryz.sortZ none 0 w1).mono ?_
  rintro e w' ⟨rfl, rfl⟩
  exact ⟨rfl, hu, by unfold gM; simpa using ho⟩
 ·simp only [List.length_map] at hn ht ho ⊢
  refine (AnyM.slices_Sort_int Tryz.sortZ g 0 cap xs w1 (holds_of_blockI hc (by simpa using ht)) (Array.getElem?_eq_some_iff.1 hc).1 (by omega)).mono ?_
  rintro e w' ⟨rfl, n, os, rfl⟩
  refine ⟨rfl, Below.grown hu (grownBy_sortedI _) hu.size (fun j hj => by cases hj; exact hg), ?_⟩
  have h := ownsRow_sortedI (n := n) (os := os) (ss := xs) (ts := gM xs) (uM xs) hg hc hn hcm (by simpa using hcs)
  unfold az
  rw [List.length_map, uM]
  exact h
end
end Go.Proofs.YteegefnjnikngaaGreat
