/- Maps whose keys are pointers at nodes. The closure that compares children: its contract. .. -/
import Derived.Test.YteegefnjnikngaaGreatQ7
import Derived.MapKept
import Derived.Laws.Pointers
import Derived.Test.YteegefnjnikngaaGreatQ2
import Derived.Shelf.SlGeneric
import Derived.Shelf.SlSortCmp.NoneTotal
import Derived.Test.YteegefnjnikngaaGreatProg
import Derived.Test.YteegefnjnikngaaGreatQ4
import Derived.OrdersHeld
import Derived.Deep.RegionHeld
import Derived.Test.YteegefnjnikngaaGreatQ6
import Derived.Test.YteegefnjnikngaaGreatQ1
import Derived.StillTailTactics
set_option maxRecDepth 100000
namespace Go.Proofs.YteegefnjnikngaaGreat
section
open Go.RowKit Go.Deep
def Plain (w : World) (b : Nat) : Prop := ∃ c t, w.heap[b]? = some (.cells c t (0, 0)) ∧ 0 < c.size
section
variable {P : Program} {w : World}
theorem CW {a b : Nat} (ha : Plain w a) (hb : Plain w b) : (sameAddr ⟨a, 0, none⟩ ⟨b, 0, none⟩).run P w = .ok (decide (a = b)) w := by
 obtain ⟨ca, ta, ha, hca⟩ := ha
 obtain ⟨cb, tb, hb, hcb⟩ := hb
 by_cases h : a = b
 ·subst h; simp [sameAddr]
 ·have h1 : (a == b) = false := by simp [h]
  simp [sameAddr, h1, h, World.frozen?, ha, hb, noView, viewAt, mayBeOne, stringish, World.shape?, getObj, Sem.run, shape, frozen]
def pk : Option Nat → Value
 | none => .pointer none
 | some b => .pointer (some ⟨b, 0, none⟩)
def eu (w : World) : Option Nat → Prop
 | none => True
 | some b => Plain w b
theorem MN {t e : TypeId} (ht : P.underlying t = some (.pointer e)) (he : ∀ w, (sizeOf e).run P w = .ok 3 w) {x y : Option Nat} (hx : eu w x) (hy : eu w y) (d : Nat) : (Op.equalIn (d + 1) t (pk x) (pk y)).run P w = .ok (decide (x = y)) w := by
 have hu := run_underlying (w := w) ht
 unfold Op.equalIn
 cases x with
 | none => cases y <;> simp [hu, pk]
 | some a =>
  cases y with
  | none => simp [hu, pk]
  | some b =>
   have h := CW (P := P) hx hy
   simp [hu, pk, he, h]
theorem Gg {t e : TypeId} (ht : P.underlying t = some (.pointer e)) (he : ∀ w, (sizeOf e).run P w = .ok 3 w) {x y : Option Nat} (hx : eu w x) (hy : eu w y) : (Op.equal t (pk x) (pk y)).run P w = .ok (decide (x = y)) w :=
 MN ht he hx hy 9999
theorem Ib {t e : TypeId} (ht : P.underlying t = some (.pointer e)) (he : ∀ w, (sizeOf e).run P w = .ok 3 w) {k : Option Nat} (hk : eu w k) : ∀ (es : List MapEntry) (l : List (Option Nat × Value)) (i : Nat),
  es.map (fun x => (x.key, x.val)) = l.map (fun x => (pk x.1, x.2)) → (∀ x ∈ l, eu w x.1) →
   (l.lookup k = none ∧ (Instr.findAsking t (pk k) es i).run P w = .ok none w) ∨ ∃ j v, l.lookup k = some v ∧ (Instr.findAsking t (pk k) es i).run P w = .ok (some (j, v)) w := by
 intro es
 induction es with
 | nil =>
  intro l i hl _
  cases l with
  | nil => exact .inl ⟨rfl, by simp [Instr.findAsking]⟩
  | cons => cases hl
 | cons x es ih =>
  intro l i hl hok
  cases l with
  | nil => cases hl
  | cons y l =>
   simp only [List.map_cons, List.cons.injEq, Prod.mk.injEq] at hl
   obtain ⟨⟨h1, h2⟩, h3⟩ := hl
   have heq := Gg (w := w) ht he hk (hok y (by simp))
   rw [← h1] at heq
   by_cases h : k = y.1
   ·subst h
    refine .inr ⟨i, y.2, ?_, ?_⟩
    ·obtain ⟨y1, y2⟩ := y; simp
    ·simp [Instr.findAsking, heq, h2]
   ·have hb : (k == y.1) = false := by simpa using h
    rcases ih l (i + 1) h3 (fun z hz => hok z (by simp [hz])) with ⟨h4, h5⟩ | ⟨j, v, h4, h5⟩
    ·refine .inl ⟨?_, by simp [Instr.findAsking, heq, h, h5]⟩
     obtain ⟨y1, y2⟩ := y
     rw [List.lookup_cons, hb]; exact h4
    ·refine .inr ⟨j, v, ?_, by simp [Instr.findAsking, heq, h, h5]⟩
     obtain ⟨y1, y2⟩ := y
     rw [List.lookup_cons, hb]; exact h4
def gQ (w : World) (b : Nat) (l : List (Option Nat × Value)) : Prop := ∃ es clock, w.heap[b]? = some (.map es clock) ∧ es.toList.map (fun x => (x.key, x.val)) = l.map (fun x => (pk x.1, x.2))
theorem run_findKey {t e : TypeId} (ht : P.underlying t = some (.pointer e)) (he : ∀ w, (sizeOf e).run P w = .ok 3 w) {k : Option Nat} (hk : eu w k) (es : List MapEntry) (l : List (Option Nat × Value))
  (hl : es.map (fun x => (x.key, x.val)) = l.map (fun x => (pk x.1, x.2))) (hok : ∀ x ∈ l, eu w x.1) :
   (l.lookup k = none ∧ (Instr.findKey t (pk k) es).run P w = .ok none w) ∨ ∃ j v, l.lookup k = some v ∧ (Instr.findKey t (pk k) es).run P w = .ok (some (j, v)) w := by
 have hu := run_underlying (w := w) ht
 have h := Ib ht he hk es l 0 hl hok
 cases es with
 | nil =>
  cases l with
  | nil => exact .inl ⟨rfl, by simp [Instr.findKey, hu, Instr.findNow]⟩
  | cons => cases hl
 | cons x es =>
  have hn : Instr.findNow (.pointer e) (pk k) (x :: es) 0 = none := by simp [Instr.findNow, Instr.sameNow]
  rcases h with ⟨h1, h2⟩ | ⟨j, v, h1, h2⟩
  ·exact .inl ⟨h1, by simp [Instr.findKey, hu, hn, h2]⟩
  ·exact .inr ⟨j, v, h1, by simp [Instr.findKey, hu, hn, h2]⟩
theorem run_checkKey {t e : TypeId} (ht : P.underlying t = some (.pointer e)) (em : Bool) (k : Option Nat) : (Instr.checkKey em 10000 t (pk k)).run P w = .ok () w := by
 have hu := run_underlying (w := w) ht
 show (Instr.checkKey em (9999 + 1) t (pk k)).run P w = _
 unfold Instr.checkKey
 cases k <;> simp [hu, pk]
theorem sj {mt t e el : TypeId} (hm : P.underlying mt = some (.map t el)) (ht : P.underlying t = some (.pointer e)) (he : ∀ w, (sizeOf e).run P w = .ok 3 w) {b : Nat} {l : List (Option Nat × Value)} (h : gQ w b l) {k : Option Nat} {v : Value}
  (hk : eu w k) (hok : ∀ x ∈ l, eu w x.1) (hv : l.lookup k = some v) : (Instr.lookup mt (.map (some b)) (pk k) false).run P w = .ok v w := by
 obtain ⟨es, clock, hb, hl⟩ := h
 have hu := run_underlying (w := w) hm
 have hg := MapKept.run_getObj_map (P := P) hb
 rcases run_findKey ht he hk es.toList l hl hok with ⟨h1, h2⟩ | ⟨j, v', h1, h2⟩
 ·rw [h1] at hv; cases hv
 ·rw [h1] at hv; injection hv with hv; subst hv
  simp [Instr.lookup, hu, hg, run_checkKey ht, h2]
theorem CX {mt t e el : TypeId} (hm : P.underlying mt = some (.map t el)) (ht : P.underlying t = some (.pointer e)) (he : ∀ w, (sizeOf e).run P w = .ok 3 w) {b : Nat} {l : List (Option Nat × Value)} (h : gQ w b l) {k : Option Nat} (v : Value)
  (hk : eu w k) (hok : ∀ x ∈ l, eu w x.1) (hv : l.lookup k = none) :
  ∃ w', (Instr.mapUpdate mt (.map (some b)) (pk k) v).run P w = .ok () w' ∧ gQ w' b (l ++ [(k, v)]) ∧ w'.heap.size = w.heap.size ∧ w'.os = w.os ∧ w'.tape = w.tape ∧ w'.output = w.output ∧ ∀ j, j ≠ b → w'.heap[j]? = w.heap[j]? := by
 obtain ⟨es, clock, hb, hl⟩ := h
 have hu := run_underlying (w := w) hm
 have hg := MapKept.run_getObj_map (P := P) hb
 rcases run_findKey ht he hk es.toList l hl hok with ⟨h1, h2⟩ | ⟨j, v', h1, h2⟩
 ·have hs := MapKept.run_setObj_map (P := P) (.map (es.push { key := pk k, val := v, born := clock }) (clock + 1)) hb
  refine ⟨{ w with heap := w.heap.setIfInBounds b (.map (es.push { key := pk k, val := v, born := clock }) (clock + 1)) }, by simp [Instr.mapUpdate, hu, hg, run_checkKey ht, h2, hs], ⟨es.push { key := pk k, val := v, born := clock }, clock + 1, ?_, by simp [hl]⟩, by simp, rfl, rfl, rfl, fun j hj => ?_⟩
  ·have := (Array.getElem?_eq_some_iff.1 hb).1
   simp [this]
  ·simp [Ne.symm hj]
 ·rw [h1] at hv; cases hv
end
end
section
open Go.RowKit Go.Deep
theorem Tryz.oI : ∀ w, (Go.sizeOf 127).run Tryz.prog w = .ok 3 w := Tryz.sizeOf127
structure iZ (n : Nat) (A : Nat → Nat) (kv : Nat → Value) (w w' : World) : Prop where
 os : w'.os = w.os
 tape : w'.tape = w.tape
 output : w'.output = w.output
 size : w.heap.size ≤ w'.heap.size
 block : ∀ b, b < w.heap.size → (∀ i, i < n → b ≠ A i) → (∀ i, i < n → (kv i).ownBlock ≠ some b) → w'.heap[b]? = w.heap[b]?
section
variable {n base : Nat} {A : Nat → Nat} {kv : Nat → Value} {F : aL} {a b c : World}
theorem iZ.refl (n : Nat) (A : Nat → Nat) (kv : Nat → Value) (w : World) : iZ n A kv w w := ⟨rfl, rfl, rfl, Nat.le_refl _, fun _ _ _ _ => rfl⟩
theorem iZ.trans (h : iZ n A kv a b) (k : iZ n A kv b c) : iZ n A kv a c :=
 ⟨k.os.trans h.os, k.tape.trans h.tape, k.output.trans h.output, Nat.le_trans h.size k.size, fun j hj h1 h2 => (k.block j (Nat.lt_of_lt_of_le hj h.size) h1 h2).trans (h.block j hj h1 h2)⟩
theorem iZ.WA (h : Up a b) : iZ n A kv a b := ⟨h.os, h.tape, h.output, h.size, fun j hj _ _ => Below.block h j hj⟩
theorem iZ.below (h : iZ n A kv a b) (hF : aR base n A kv F a) (hb : base ≤ a.heap.size) : Below base a b :=
 ⟨h.os, h.tape, h.output, h.size, fun j hj => h.block j (by omega) (fun i hi e => by have := hF.lo i hi; omega) (fun i hi e => by have := (hF.eT hi e).1; omega)⟩
end
set_option maxHeartbeats 400000 in
theorem J5 (w : World) (bx m0 x y : Nat) (l : List (Option Nat × Value)) (sx sy : ByteArray) (jS : w.cell? ⟨bx, 0, none⟩ = some (.map (some m0))) (hm : gQ w m0 l) (hok : ∀ z ∈ l, eu w z.1) (hx : Plain w x) (hy : Plain w y)
  (h1 : l.lookup (some x) = some (.string sx)) (h2 : l.lookup (some y) = some (.string sy)) :
  Calls Tryz.prog 222 #[.pointer (some ⟨x, 0, none⟩), .pointer (some ⟨y, 0, none⟩), .pointer (some ⟨bx, 0, none⟩)] w fun e w' => e = .returned (.int .i64 (bK sx sy)) ∧ w = w' := by
 have g1 := sj (P := Tryz.prog) Tryz.underlying226 Tryz.underlying124 Tryz.oI hm (k := some x) hx hok h1
 have g2 := sj (P := Tryz.prog) Tryz.underlying226 Tryz.underlying124 Tryz.oI hm (k := some y) hy hok h2
 simp only [pk] at g1 g2
 clear hm hok hx hy h1 h2
 go_enter Tryz.func222, Tryz.ntmps222
 go_wp2_with (go_at_call 223; refine (Tryz.strings_Compare sx sy _).mono ?_; rintro e w' ⟨rfl, rfl⟩)
 go_ret
 exact ⟨rfl, rfl⟩
end
end Go.Proofs.YteegefnjnikngaaGreat
namespace Go.Proofs
open Go.Shelf
def Tryz.sortNode_ren : Go.Shelf.Ren := ⟨fun | 6 => 221 | 15 => 137 | 14 => 267 | 28 => 194 | 29 => 195 | 20 => 289 | 21 => 290 | 22 => 291 | 23 => 292 | 24 => 293 | 25 => 294 | 26 => 295 | 27 => 296 | 46 => 302 | 47 => 250 | 48 => 251 | 49 => 303 | 50 => 304 | 57 => 306 | n => n, fun | 22 => 125 | 24 => 124 | 25 => 228 | 3 => 3 | 39 => 162 | 0 => 0 | 53 => 201 | 55 => 203 | 4 => 4 | 46 => 193 | 45 => 192 | 50 => 198 | 5 => 5 | 9 => 9 | 66 => 250 | 70 => 254 | 76 => 277 | 77 => 187 | n => n, fun | n => n⟩
theorem Tryz.sortNode : Go.Proofs.SlLaysF.n6 Tryz.prog Tryz.sortNode_ren := {
 mixed := by kernel_rfl
 f6 := ⟨Tryz.f221.name, by decide, Tryz.func221.trans (congrArg some (by kernel_rfl))⟩
 f14 := ⟨Tryz.f267.name, by decide, Tryz.func267.trans (congrArg some (by kernel_rfl))⟩
 f15 := Tryz.func137.trans (congrArg some (by kernel_rfl))
 f20 := ⟨Tryz.f289.name, by decide, Tryz.func289.trans (congrArg some (by kernel_rfl))⟩
 f21 := ⟨Tryz.f290.name, by decide, Tryz.func290.trans (congrArg some (by kernel_rfl))⟩
 f22 := ⟨Tryz.f291.name, by decide, Tryz.func291.trans (congrArg some (by kernel_rfl))⟩
 f23 := ⟨Tryz.f292.name, by decide, Tryz.func292.trans (congrArg some (by kernel_rfl))⟩
 f24 := ⟨Tryz.f293.name, by decide, Tryz.func293.trans (congrArg some (by kernel_rfl))⟩
 f25 := ⟨Tryz.f294.name, by decide, Tryz.func294.trans (congrArg some (by kernel_rfl))⟩
 f26 := ⟨Tryz.f295.name, by decide, Tryz.func295.trans (congrArg some (by kernel_rfl))⟩
 f27 := ⟨Tryz.f296.name, by decide, Tryz.func296.trans (congrArg some (by kernel_rfl))⟩
 f28 := Tryz.func194.trans (congrArg some (by kernel_rfl))
 f29 := Tryz.func195.trans (congrArg some (by kernel_rfl))
 f46 := ⟨Tryz.f302.name, by decide, Tryz.func302.trans (congrArg some (by kernel_rfl))⟩
 f47 := Tryz.func250.trans (congrArg some (by kernel_rfl))
 f48 := Tryz.func251.trans (congrArg some (by kernel_rfl))
 f49 := ⟨Tryz.f303.name, by decide, Tryz.func303.trans (congrArg some (by kernel_rfl))⟩
 f50 := ⟨Tryz.f304.name, by decide, Tryz.func304.trans (congrArg some (by kernel_rfl))⟩
 f57 := ⟨Tryz.f306.name, by decide, Tryz.func306.trans (congrArg some (by kernel_rfl))⟩
 t0 := Tryz.underlying0
 a0 := Tryz.isAgg0
 z0 := Tryz.sizeOf0
 v0 := Tryz.zeroValue0
 t3 := Tryz.underlying3
 a3 := Tryz.isAgg3
 z3 := Tryz.sizeOf3
 v3 := Tryz.zeroValue3
 t4 := Tryz.underlying4
 a4 := Tryz.isAgg4
 z4 := Tryz.sizeOf4
 v4 := Tryz.zeroValue4
 t5 := Tryz.underlying5
 a5 := Tryz.isAgg5
 z5 := Tryz.sizeOf5
 v5 := Tryz.zeroValue5
 t9 := Tryz.underlying9
 a9 := Tryz.isAgg9
 z9 := Tryz.sizeOf9
 v9 := Tryz.zeroValue9
 t22 := Tryz.underlying125
 a22 := Tryz.isAgg125
 z22 := Tryz.sizeOf125
 v22 := Tryz.zeroValue125
 a24 := Tryz.isAgg124
 z24 := Tryz.sizeOf124
 t25 := Tryz.underlying228
 a25 := Tryz.isAgg228
 z25 := Tryz.sizeOf228
 v25 := Tryz.zeroValue228
 t39 := Tryz.underlying162
 a39 := Tryz.isAgg162
 z39 := Tryz.sizeOf162
 v39 := Tryz.zeroValue162
 t45 := Tryz.underlying192
 a45 := Tryz.isAgg192
 z45 := Tryz.sizeOf192
 v45 := Tryz.zeroValue192
 t46 := Tryz.underlying193
 a46 := Tryz.isAgg193
 z46 := Tryz.sizeOf193
 v46 := Tryz.zeroValue193
 t50 := Tryz.underlying198
 a50 := Tryz.isAgg198
 z50 := Tryz.sizeOf198
 v50 := Tryz.zeroValue198
 t53 := Tryz.underlying201
 a53 := Tryz.isAgg201
 z53 := Tryz.sizeOf201
 v53 := Tryz.zeroValue201
 t55 := Tryz.underlying203
 a55 := Tryz.isAgg203
 z55 := Tryz.sizeOf203
 v55 := Tryz.zeroValue203
 t66 := Tryz.underlying250
 a66 := Tryz.isAgg250
 z66 := Tryz.sizeOf250
 v66 := Tryz.zeroValue250
 t70 := Tryz.underlying254
 a70 := Tryz.isAgg254
 z70 := Tryz.sizeOf254
 v70 := Tryz.zeroValue254
 t76 := Tryz.underlying277
 a76 := Tryz.isAgg277
 z76 := Tryz.sizeOf277
 v76 := Tryz.zeroValue277
 t77 := Tryz.underlying187
 a77 := Tryz.isAgg187
 z77 := Tryz.sizeOf187
 v77 := Tryz.zeroValue187 }
end Go.Proofs
namespace Go.Proofs.YteegefnjnikngaaGreat
section
open Go.RowKit Go.Deep
section
variable {P : Program} {ops : Array Oper} {Q : Exit → Act → World → Prop} {md : Region.Mode} {S : World → Prop} {t : Nat}
def gw (t : Nat) (l : Array Bool) : Prop := ∃ m, m < t ∧ l.getD m true = false
def waitsB (t : Nat) (md : Region.Mode) (ops : Array Oper) (l : Array Bool) (i : Nat) : Bool := (List.range t).any fun m => !l.getD m true && (match ops[m]? with | some o => o.after.any fun e => Region.binds md e && e.on == i | none => false)
def af (P : Program) (md : Region.Mode) (ops : Array Oper) (Q : Exit → Act → World → Prop) (S : World → Prop) (t : Nat) : Nat → Array Bool → Act → World → Prop
 | 0, l, a, w => Region.ready md ops l = [] ∧ Q .normal a w
 | n + 1, l, a, w => (Region.ready md ops l = [] → Q .normal a w) ∧
  ∀ i ∈ Region.ready md ops l, wpOp P ops Q i (fun a' w' => (gw t (l.setIfInBounds i true) → S w') ∧ af P md ops Q S t n (l.setIfInBounds i true) a' w') a w
theorem af.any : ∀ (n : Nat) (l : Array Bool) (a : Act) (w : World), af P md ops Q S t n l a w → wpAny P md ops Q n l a w
 | 0, _, _, _, h => h
 | n + 1, _, _, _, h => ⟨h.1, fun i hi => wpOp_mono (fun a' w' h' => af.any n _ a' w' h'.2) (h.2 i hi)⟩
theorem af.first {i : Nat} {oi : Oper} {v : Value} (hi : ops[i]? = some oi) (hsel : ∀ (j : Nat) (o : Oper) cs b, ops[j]? = some o → o.op ≠ .select cs b)
  (hQ : ∀ c a w, Q (.panic c) (a.put oi.dst v) w → Q (.panic c) a w) : ∀ (n : Nat) (l : Array Bool) (a : Act) (w : World),
   (∀ j oj, ops[j]? = some oj → j ≠ i → l.getD j true = false → (∀ e ∈ oj.after, Region.binds md e = true → e.on ≠ i) → oi.apart ops oj = true) →
   i ∈ Region.ready md ops l → waitsB t md ops l i = true → YieldsIf P ops S oi v a → S w → af P md ops Q S t n (l.setIfInBounds i true) (a.put oi.dst v) w → af P md ops Q S t (n + 1) l a w := by
 intro n
 induction n with
 | zero =>
  intro l a w _ hr _ hy hS H
  refine ⟨fun h => absurd hr (by rw [h]; simp), fun j hj => ?_⟩
  by_cases hji : j = i
  ·subst hji; exact hy.wpOp hi hS ⟨fun _ => hS, H⟩
  ·exact absurd (ready_mono hj hji) (by rw [H.1]; simp)
 | succ n ih =>
  intro l a w hfree hr hwt hy hS H
  refine ⟨fun h => absurd hr (by rw [h]; simp), fun j hj => ?_⟩
  by_cases hji : j = i
  ·subst hji; exact hy.wpOp hi hS ⟨fun _ => hS, H⟩
  ·have hun := (mem_ready.1 hr).1
   obtain ⟨oJ, oj, jh, hall⟩ := mem_ready.1 hj
   have hnot : ∀ e ∈ oj.after, Region.binds md e = true → e.on ≠ i := fun e he hb heq => by
    have h1 := hall e he hb
    rw [heq] at h1
    by_cases h' : i < l.size
    ·simp [h'] at hun h1; rw [hun] at h1; cases h1
    ·simp [h'] at h1
   have h2 := wpOp_putIf jh (hfree j oj jh hji oJ hnot) (fun cs b => hsel i oi cs b hi) (fun cs b => hsel j oj cs b jh) hQ hy (H.2 j (ready_mono hj hji))
   have hir : i ∈ Region.ready md ops (l.setIfInBounds j true) := ready_mono hr (Ne.symm hji)
   refine wpOp_mono (fun a' w' h3 => ?_) h2
   have oK : ∀ k ok, ops[k]? = some ok → k ≠ i → (l.setIfInBounds j true).getD k true = false → (∀ e ∈ ok.after, Region.binds md e = true → e.on ≠ i) → oi.apart ops ok = true := fun k ok hk hki uo hno => by
    refine hfree k ok hk hki ?_ hno
    by_cases hjk : j = k
    ·rw [← hjk]; exact oJ
    ·rw [getD_set_ne true hjk] at uo; exact uo
   have hcm : (l.setIfInBounds i true).setIfInBounds j true = (l.setIfInBounds j true).setIfInBounds i true := Array.setIfInBounds_comm _ _ (Ne.symm hji)
   obtain ⟨m, hml, hm⟩ := List.any_eq_true.1 hwt
   have hml := List.mem_range.1 hml
   simp only [Bool.and_eq_true, Bool.not_eq_true'] at hm
   obtain ⟨J6, hm2⟩ := hm
   obtain ⟨om, hmo⟩ : ∃ om, ops[m]? = some om := by
    cases h : ops[m]? with
    | none => rw [h] at hm2; cases hm2
    | some o => exact ⟨o, rfl⟩
   rw [hmo] at hm2
   obtain ⟨x, hx, e, J7⟩ := (by simpa using Array.any_eq_true.1 hm2 : ∃ x, ∃ (hx : x < om.after.size), Region.binds md om.after[x] = true ∧ om.after[x].on = i)
   have Y0 : m ≠ j := fun e2 => by
    subst e2
    rw [hmo] at jh
    injection jh with jh
    refine hnot om.after[x] ?_ e J7
    rw [← jh]; exact Array.getElem_mem hx
   have hmi : m ≠ i := fun e2 => by
    subst e2
    obtain ⟨_, o3, uq, h4⟩ := mem_ready.1 hr
    rw [hmo] at uq
    injection uq with uq
    have h5 := h4 om.after[x] (by rw [← uq]; exact Array.getElem_mem hx) e
    rw [J7] at h5
    by_cases h' : m < l.size
    ·simp [h'] at hun h5; rw [hun] at h5; cases h5
    ·simp [h'] at h5
   have J8 : S w' := h3.2.1 ⟨m, hml, by rw [getD_set_ne true (Ne.symm Y0), getD_set_ne true (Ne.symm hmi)]; exact J6⟩
   have MO : waitsB t md ops (l.setIfInBounds j true) i = true := List.any_eq_true.2 ⟨m, List.mem_range.2 hml, by
    rw [getD_set_ne true (Ne.symm Y0), J6, hmo]; simpa using hm2⟩
   exact ⟨fun _ => J8, ih _ a' w' oK hir MO h3.1 J8 (by rw [← hcm]; exact h3.2.2)⟩
theorem af.Ic {i : Nat} {oi : Oper} {v : Value} (hti : t ≤ i) (hi : ops[i]? = some oi) (hsel : ∀ (j : Nat) (o : Oper) cs b, ops[j]? = some o → o.op ≠ .select cs b)
  (hQ : ∀ c a w, Q (.panic c) (a.put oi.dst v) w → Q (.panic c) a w) : ∀ (n : Nat) (l : Array Bool) (a : Act) (w : World),
   (∀ j oj, ops[j]? = some oj → j ≠ i → l.getD j true = false → (∀ e ∈ oj.after, Region.binds md e = true → e.on ≠ i) → oi.apart ops oj = true) →
   i ∈ Region.ready md ops l → YieldsIf P ops (fun _ => True) oi v a → (gw t (l.setIfInBounds i true) → S w) → af P md ops Q S t n (l.setIfInBounds i true) (a.put oi.dst v) w → af P md ops Q S t (n + 1) l a w := by
 intro n
 induction n with
 | zero =>
  intro l a w _ hr hy hS H
  refine ⟨fun h => absurd hr (by rw [h]; simp), fun j hj => ?_⟩
  by_cases hji : j = i
  ·subst hji; exact hy.wpOp hi trivial ⟨hS, H⟩
  ·exact absurd (ready_mono hj hji) (by rw [H.1]; simp)
 | succ n ih =>
  intro l a w hfree hr hy hS H
  refine ⟨fun h => absurd hr (by rw [h]; simp), fun j hj => ?_⟩
  by_cases hji : j = i
  ·subst hji; exact hy.wpOp hi trivial ⟨hS, H⟩
  ·have hun := (mem_ready.1 hr).1
   obtain ⟨oJ, oj, jh, hall⟩ := mem_ready.1 hj
   have hnot : ∀ e ∈ oj.after, Region.binds md e = true → e.on ≠ i := fun e he hb heq => by
    have h1 := hall e he hb
    rw [heq] at h1
    by_cases h' : i < l.size
    ·simp [h'] at hun h1; rw [hun] at h1; cases h1
    ·simp [h'] at h1
   have h2 := wpOp_putIf jh (hfree j oj jh hji oJ hnot) (fun cs b => hsel i oi cs b hi) (fun cs b => hsel j oj cs b jh) hQ hy (H.2 j (ready_mono hj hji))
   have hir : i ∈ Region.ready md ops (l.setIfInBounds j true) := ready_mono hr (Ne.symm hji)
   refine wpOp_mono (fun a' w' h3 => ?_) h2
   have oK : ∀ k ok, ops[k]? = some ok → k ≠ i → (l.setIfInBounds j true).getD k true = false → (∀ e ∈ ok.after, Region.binds md e = true → e.on ≠ i) → oi.apart ops ok = true := fun k ok hk hki uo hno => by
    refine hfree k ok hk hki ?_ hno
    by_cases hjk : j = k
    ·rw [← hjk]; exact oJ
    ·rw [getD_set_ne true hjk] at uo; exact uo
   have hcm : (l.setIfInBounds i true).setIfInBounds j true = (l.setIfInBounds j true).setIfInBounds i true := Array.setIfInBounds_comm _ _ (Ne.symm hji)
   have hmo : gw t (l.setIfInBounds j true) → S w' := fun ⟨m, hm, hml⟩ => h3.2.1 ⟨m, hm, by
    rw [hcm, getD_set_ne true (by omega)]; exact hml⟩
   refine ⟨hmo, ih _ a' w' oK hir h3.1 (fun ⟨m, hm, hml⟩ => hmo ⟨m, hm, ?_⟩) (by rw [← hcm]; exact h3.2.2)⟩
   rw [getD_set_ne true (by omega)] at hml; exact hml
theorem af.free {i : Nat} {oi : Oper} {v : Value} {n : Nat} {l : Array Bool} {a : Act} {w : World} (iq : ops.toList[i]? = some oi)
  (hc : (decide (t ≤ i) && Region.noSelect ops && Region.free md ops l i && (Region.ready md ops l).contains i) = true)
  (hQ : ∀ c a w, Q (.panic c) (a.put oi.dst v) w → Q (.panic c) a w) (hg : Region.wanted oi (yielded ops a.tmps) = true) (hy : ∀ w, (execOp a.eval oi).run P w = .ok (.value v) w) (hS : gw t (l.setIfInBounds i true) → S w)
  (h : af P md ops Q S t n (l.setIfInBounds i true) (a.put oi.dst v) w) : af P md ops Q S t (n + 1) l a w := by
 have hi : ops[i]? = some oi := by rw [← Array.getElem?_toList]; exact iq
 simp only [Bool.and_eq_true, decide_eq_true_eq] at hc
 obtain ⟨⟨⟨h0, h1⟩, h2⟩, h3⟩ := hc
 exact af.Ic h0 hi (Region.noSelect_spec h1) hQ n l a w (Region.free_spec hi h2) (by simpa using h3) (.inl ⟨hg, fun w _ => hy w⟩) hS h
theorem af.take {i : Nat} {oi : Oper} {v : Value} {n : Nat} {l : Array Bool} {a : Act} {w : World} (iq : ops.toList[i]? = some oi)
  (hc : (Region.noSelect ops && Region.free md ops l i && (Region.ready md ops l).contains i && waitsB t md ops l i) = true)
  (hQ : ∀ c a w, Q (.panic c) (a.put oi.dst v) w → Q (.panic c) a w) (hg : Region.wanted oi (yielded ops a.tmps) = true) (hy : ∀ w, S w → (execOp a.eval oi).run P w = .ok (.value v) w) (hS : S w)
  (h : af P md ops Q S t n (l.setIfInBounds i true) (a.put oi.dst v) w) : af P md ops Q S t (n + 1) l a w := by
 have hi : ops[i]? = some oi := by rw [← Array.getElem?_toList]; exact iq
 simp only [Bool.and_eq_true] at hc
 obtain ⟨⟨⟨h1, h2⟩, h3⟩, h4⟩ := hc
 exact af.first hi (Region.noSelect_spec h1) hQ n l a w (Region.free_spec hi h2) (by simpa using h3) h4 (.inl ⟨hg, hy⟩) hS h
theorem af.step {i : Nat} {oi : Oper} {n : Nat} {l : Array Bool} {a : Act} {w : World} (iq : ops.toList[i]? = some oi) (hr : Region.ready md ops l = [i])
  (h : ∀ K' : Act → World → Prop, Shut (∀ a w, (gw t (l.setIfInBounds i true) → S w) → ((gw t (l.setIfInBounds i true) → S w) → af P md ops Q S t n (l.setIfInBounds i true) a w) → K' a w) → if Region.wanted oi (yielded ops a.tmps) = true then Oper.wp P oi a w K' Q else K' (a.put oi.dst undef) w) :
  af P md ops Q S t (n + 1) l a w :=
 ⟨fun h0 => absurd (h0.symm.trans hr) (by simp), fun j hj => by
  rw [hr] at hj
  obtain rfl : j = i := by simpa using hj
  exact wpOp_step (by rw [← Array.getElem?_toList]; exact iq) fun K' hK => h K' fun a w hS hW => hK a w ⟨hS, hW hS⟩⟩
theorem af.vB {i i2 : Nat} {oi wG : Oper} {n : Nat} {l : Array Bool} {a : Act} {w : World} (iq : ops.toList[i]? = some oi) (MP : ops.toList[i2]? = some wG) (hr : Region.ready md ops l = [i, i2])
  (h : ∀ K' : Act → World → Prop, Shut (∀ a w, (gw t (l.setIfInBounds i true) → S w) → ((gw t (l.setIfInBounds i true) → S w) → af P md ops Q S t n (l.setIfInBounds i true) a w) → K' a w) → if Region.wanted oi (yielded ops a.tmps) = true then Oper.wp P oi a w K' Q else K' (a.put oi.dst undef) w)
  (h2 : ∀ K' : Act → World → Prop, Shut (∀ a w, (gw t (l.setIfInBounds i2 true) → S w) → ((gw t (l.setIfInBounds i2 true) → S w) → af P md ops Q S t n (l.setIfInBounds i2 true) a w) → K' a w) → if Region.wanted wG (yielded ops a.tmps) = true then Oper.wp P wG a w K' Q else K' (a.put wG.dst undef) w) :
  af P md ops Q S t (n + 1) l a w :=
 ⟨fun h0 => absurd (h0.symm.trans hr) (by simp), fun j hj => by
  rw [hr] at hj
  rcases List.mem_cons.1 hj with rfl | hj
  ·exact wpOp_step (by rw [← Array.getElem?_toList]; exact iq) fun K' hK => h K' fun a w hS hW => hK a w ⟨hS, hW hS⟩
  ·obtain rfl : j = i2 := by simpa using hj
   exact wpOp_step (by rw [← Array.getElem?_toList]; exact MP) fun K' hK => h2 K' fun a w hS hW => hK a w ⟨hS, hW hS⟩⟩
theorem af.done {l : Array Bool} {a : Act} {w : World} {n : Nat} (hr : Region.ready md ops l = []) (h : Q .normal a w) : af P md ops Q S t n l a w := by
 cases n with
 | zero => exact ⟨hr, h⟩
 | succ n => exact ⟨fun _ => h, fun j hj => (by rw [hr] at hj; cases hj)⟩
theorem aJ {t : Nat} {l : Array Bool} (h : ((List.range t).all fun m => l.getD m true) = true) {p : Prop} : gw t l → p := fun ⟨m, hm, hl⟩ => by
 have := List.all_eq_true.1 h m (List.mem_range.2 hm)
 rw [hl] at this; cases this
theorem cZ {id : Nat} {a : Act} {w : World} (hm : P.follows .mixedOrders = true) (t : Nat) (S : World → Prop) (hS : S w.drew)
  (h : S w.drew → af P .any ops Q S t ops.size (Array.replicate ops.size false) a w.drew) : (Code.region id ops true).wp P Q a w := wp_region_any hm (af.any _ _ _ _ (h hS))
end
end
section
open Go.RowKit Go.Deep
end
end Go.Proofs.YteegefnjnikngaaGreat
