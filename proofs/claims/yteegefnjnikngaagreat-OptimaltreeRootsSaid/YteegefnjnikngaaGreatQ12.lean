/- A list of groups that came in, opened. The closure that compares children: its contract. .. -/
import Derived.Test.YteegefnjnikngaaGreatQ1
import Derived.Test.YteegefnjnikngaaGreatQ8
import Derived.Test.YteegefnjnikngaaGreatQ10
import Derived.Test.YteegefnjnikngaaGreatQ2
import Derived.Deep.AppendLies
import Derived.Test.YteegefnjnikngaaGreatQ11
import Derived.Test.YteegefnjnikngaaGreatQ9
set_option maxRecDepth 100000
namespace Go.Proofs.YteegefnjnikngaaGreat
section
open Go.ChangeShapes Go.WideShapes Go.ChangeAt Go.RowKit Go.Deep
instance : Inhabited Eu := ⟨⟨0, 0, []⟩⟩
section
variable {H : Type} {enc : TypeId × Value → H} {W : World}
theorem MP {v : Value} {d : DataW H} {p : List MemPlace} {base : Nat} (hv : Value.okWide Tryz.prog W .any base 22 v) (h : DataW.Trod enc Tryz.prog W 0 (fun _ => true) true 22 v d p) : ∃ xs : List ByteArray, av Any W v xs ∧ xs.length ≤ 9223372036854775807 ∧ ∀ k, (gs xs k).size ≤ 9223372036854775807 := by
 obtain ⟨a, l, c, rfl⟩ := okWide_slice Tryz.underlying22 hv
 obtain ⟨n, hn⟩ := GN rfl h
 exact MH hn
end
end
section
open Go.RowKit Go.Deep
theorem Tryz.sK : ∀ w, (Go.sizeOf 127).run Tryz.prog w = .ok 3 w := Tryz.sizeOf127
structure gL (n : Nat) (A : Nat → Nat) (kv : Nat → Value) (w w' : World) : Prop where
 os : w'.os = w.os
 tape : w'.tape = w.tape
 output : w'.output = w.output
 size : w.heap.size ≤ w'.heap.size
 block : ∀ b, b < w.heap.size → (∀ i, i < n → b ≠ A i) → (∀ i, i < n → (kv i).ownBlock ≠ some b) → w'.heap[b]? = w.heap[b]?
section
variable {n base : Nat} {A : Nat → Nat} {kv : Nat → Value} {F : aP} {a b c : World}
theorem gL.refl (n : Nat) (A : Nat → Nat) (kv : Nat → Value) (w : World) : gL n A kv w w := ⟨rfl, rfl, rfl, Nat.le_refl _, fun _ _ _ _ => rfl⟩
theorem gL.trans (h : gL n A kv a b) (k : gL n A kv b c) : gL n A kv a c :=
 ⟨k.os.trans h.os, k.tape.trans h.tape, k.output.trans h.output, Nat.le_trans h.size k.size, fun j hj h1 h2 => (k.block j (Nat.lt_of_lt_of_le hj h.size) h1 h2).trans (h.block j hj h1 h2)⟩
theorem gL.MQ (h : Up a b) : gL n A kv a b := ⟨h.os, h.tape, h.output, h.size, fun j hj _ _ => Below.block h j hj⟩
theorem gL.below (h : gL n A kv a b) (hF : aS base n A kv F a) (hb : base ≤ a.heap.size) : Below base a b :=
 ⟨h.os, h.tape, h.output, h.size, fun j hj => h.block j (by omega) (fun i hi e => by have := hF.lo i hi; omega) (fun i hi e => by have := (hF.ep hi e).1; omega)⟩
end
set_option maxHeartbeats 400000 in
theorem O7 (w : World) (bx m0 x y : Nat) (l : List (Option Nat × Value)) (sx sy : ByteArray) (kj : w.cell? ⟨bx, 0, none⟩ = some (.map (some m0))) (hm : jB w m0 l) (hok : ∀ z ∈ l, gm w z.1) (hx : Plain w x) (hy : Plain w y)
  (h1 : l.lookup (some x) = some (.string sx)) (h2 : l.lookup (some y) = some (.string sy)) :
  Calls Tryz.prog 222 #[.pointer (some ⟨x, 0, none⟩), .pointer (some ⟨y, 0, none⟩), .pointer (some ⟨bx, 0, none⟩)] w fun e w' => e = .returned (.int .i64 (cz sx sy)) ∧ w = w' := by
 have g1 := wk (P := Tryz.prog) Tryz.underlying226 Tryz.underlying124 Tryz.sK hm (k := some x) hx hok h1
 have g2 := wk (P := Tryz.prog) Tryz.underlying226 Tryz.underlying124 Tryz.sK hm (k := some y) hy hok h2
 simp only [pk] at g1 g2
 clear hm hok hx hy h1 h2
 go_enter Tryz.func222, Tryz.ntmps222
 go_wp2_with (go_at_call 223; refine (Tryz.strings_Compare sx sy _).mono ?_; rintro e w' ⟨rfl, rfl⟩)
 go_ret
 exact ⟨rfl, rfl⟩
end
section
open Go.RowKit Go.Deep
def uE (l : List (Option Nat × Value)) (k : Option Nat) (v : Value) : List (Option Nat × Value) := if (l.lookup k).isNone then l ++ [(k, v)] else l.map fun x => if x.1 = k then (k, v) else x
section
variable {P : Program} {w : World}
theorem Sc (k : Option Nat) : Instr.sameBits 10000 (pk k) (pk k) = true := by
 cases k <;> simp [pk, Instr.sameBits]
theorem O8 (k : Option Nat) : (Instr.keyThatStays (pk k) (pk k)).run P w = .ok (pk k) w := by
 unfold Instr.keyThatStays
 rw [if_pos (Sc k)]; rfl
theorem Hh {t e : TypeId} (ht : P.underlying t = some (.pointer e)) (he : ∀ w, (sizeOf e).run P w = .ok 3 w) {k : Option Nat} (hk : gm w k) : ∀ (es : List MapEntry) (l : List (Option Nat × Value)) (i : Nat),
  es.map (fun x => (x.key, x.val)) = l.map (fun x => (pk x.1, x.2)) → (∀ x ∈ l, gm w x.1) → (l.lookup k).isSome →
   ∃ j v, l.lookup k = some v ∧ (l[j]?).map (·.1) = some k ∧ (∀ m, m < j → (l[m]?).map (·.1) ≠ some k) ∧ (Instr.findAsking t (pk k) es i).run P w = .ok (some (i + j, v)) w := by
 intro es
 induction es with
 | nil =>
  intro l i hl _ hs
  cases l with
  | nil => cases hs
  | cons => cases hl
 | cons x es ih =>
  intro l i hl hok hs
  cases l with
  | nil => cases hl
  | cons y l =>
   simp only [List.map_cons, List.cons.injEq, Prod.mk.injEq] at hl
   obtain ⟨⟨h1, h2⟩, h3⟩ := hl
   have heq := K8 (w := w) ht he hk (hok y (by simp))
   rw [← h1] at heq
   by_cases h : k = y.1
   ·subst h
    refine ⟨0, y.2, ?_, rfl, fun m hm => absurd hm (Nat.not_lt_zero _), ?_⟩
    ·obtain ⟨y1, y2⟩ := y; simp
    ·simp [Instr.findAsking, heq, h2]
   ·have hb : (k == y.1) = false := by simpa using h
    have hs' : (l.lookup k).isSome := by
     obtain ⟨y1, y2⟩ := y
     rw [List.lookup_cons, hb] at hs; exact hs
    obtain ⟨j, v, h4, h5, h6, h7⟩ := ih l (i + 1) h3 (fun z hz => hok z (by simp [hz])) hs'
    refine ⟨j + 1, v, ?_, by simpa using h5, fun m hm => ?_, ?_⟩
    ·obtain ⟨y1, y2⟩ := y; rw [List.lookup_cons, hb]; exact h4
    ·cases m with
     | zero => simpa using fun e => h e.symm
     | succ m => simpa using h6 m (by omega)
    ·simp [Instr.findAsking, heq, h, h7]; omega
def wm (l : List (Option Nat × Value)) : Prop := (l.map (·.1)).Nodup
theorem B4 {l : List (Option Nat × Value)} {k : Option Nat} : l.lookup k = none ↔ k ∉ l.map (·.1) := by
 induction l with
 | nil => simp
 | cons y l ih =>
  obtain ⟨y1, y2⟩ := y
  rw [List.lookup_cons]
  by_cases h : k = y1
  ·subst h; simp
  ·have hb : (k == y1) = false := by simpa using h
   rw [hb]; simp only [List.map_cons, List.mem_cons, not_or]
   exact ⟨fun h2 => ⟨h, ih.1 h2⟩, fun h2 => ih.2 h2.2⟩
theorem O9 (l : List (Option Nat × Value)) (k : Option Nat) (v : Value) : (uE l k v).map (·.1) = if (l.lookup k).isNone then l.map (·.1) ++ [k] else l.map (·.1) := by
 unfold uE
 split
 ·simp
 ·rw [List.map_map]
  refine List.map_congr_left fun x _ => ?_
  show (if x.1 = k then (k, v) else x).1 = x.1
  split
  ·rename_i h; exact h.symm
  ·rfl
theorem Pa {l : List (Option Nat × Value)} (h : wm l) (k : Option Nat) (v : Value) : wm (uE l k v) := by
 unfold wm
 rw [O9]
 split
 ·rename_i h2
  have h3 : k ∉ l.map (·.1) := B4.1 (by simpa using h2)
  rw [List.nodup_append]
  refine ⟨h, by simp, fun a ha b hb => ?_⟩
  have : b = k := by simpa using hb
  subst this
  exact fun e => h3 (by rw [← e]; exact ha)
 ·exact h
theorem Ky {l : List (Option Nat × Value)} (h : wm l) {k : Option Nat} (v : Value) {j : Nat} (hj : (l[j]?).map (·.1) = some k) : (l.map fun x => if x.1 = k then (k, v) else x) = l.set j (k, v) := by
 apply List.ext_getElem?
 intro m
 have hjl : j < l.length := by
  cases hlj : l[j]? with
  | none => rw [hlj] at hj; cases hj
  | some y => exact (List.getElem?_eq_some_iff.1 hlj).1
 rw [List.getElem?_map, List.getElem?_set]
 by_cases e : j = m
 ·subst e
  rw [if_pos rfl, if_pos hjl]
  rw [List.getElem?_eq_getElem hjl] at hj ⊢
  have h3 : (l[j]).1 = k := by simpa using hj
  simp [h3]
 ·rw [if_neg e]
  cases hm : l[m]? with
  | none => rfl
  | some y =>
   have hml := (List.getElem?_eq_some_iff.1 hm).1
   have hne : y.1 ≠ k := fun h4 => by
    have h5 : (l.map (·.1))[m]? = (l.map (·.1))[j]? := by rw [List.getElem?_map, List.getElem?_map, hm, hj]; simp [h4]
    have h6 : m < (l.map (·.1)).length := by simpa using hml
    have h7 : j < (l.map (·.1)).length := by simpa using hjl
    rw [List.getElem?_eq_getElem h6, List.getElem?_eq_getElem h7] at h5
    injection h5 with h5
    exact e ((List.getElem_inj h).1 h5).symm
   simp [hne]
theorem Hi {mt t e el : TypeId} (hm : P.underlying mt = some (.map t el)) (ht : P.underlying t = some (.pointer e)) (he : ∀ w, (sizeOf e).run P w = .ok 3 w) {b : Nat} {l : List (Option Nat × Value)} (h : jB w b l) (hu : wm l) {k : Option Nat} (v : Value)
  (hk : gm w k) (hok : ∀ x ∈ l, gm w x.1) :
  ∃ w', (Instr.mapUpdate mt (.map (some b)) (pk k) v).run P w = .ok () w' ∧ jB w' b (uE l k v) ∧ w'.heap.size = w.heap.size ∧ w'.os = w.os ∧ w'.tape = w.tape ∧ w'.output = w.output ∧ ∀ j, j ≠ b → w'.heap[j]? = w.heap[j]? := by
 cases hl0 : l.lookup k with
 | none =>
  obtain ⟨w', h1, h2, h3⟩ := GX hm ht he h v hk hok hl0
  refine ⟨w', h1, ?_, h3⟩
  unfold uE; rw [hl0]; exact h2
 | some v0 =>
  obtain ⟨es, clock, hb, hl⟩ := h
  have aX := run_underlying (w := w) hm
  have aK := run_underlying (w := w) ht
  have hg := MapKept.run_getObj_map (P := P) hb
  obtain ⟨j, v', h4, h5, h6, h7⟩ := Hh ht he hk es.toList l 0 hl hok (by rw [hl0]; rfl)
  have hne : es.toList ≠ [] := fun h0 => by rw [h0] at hl; cases l with | nil => cases hl0 | cons => cases hl
  have hfk : (Instr.findKey t (pk k) es.toList).run P w = .ok (some (j, v')) w := by
   cases hes : es.toList with
   | nil => exact absurd hes hne
   | cons x xs =>
    have hn : Instr.findNow (.pointer e) (pk k) (x :: xs) 0 = none := by simp [Instr.findNow, Instr.sameNow]
    rw [hes] at h7
    simp [Instr.findKey, aK, hn, h7]
  have hkey : ((es[j]?).map (·.key)) = some (pk k) := by
   have h8 := congrArg (fun q => (q[j]?).map (·.1)) hl
   simp only [List.getElem?_map, Option.map_map] at h8
   have h9 : (l[j]?).map (fun x => pk x.1) = some (pk k) := by
    cases hlj : l[j]? with
    | none => rw [hlj] at h5; cases h5
    | some y => rw [hlj] at h5; simp at h5; simp [h5]
   have h10 : (es.toList[j]?).map (·.key) = (l[j]?).map (fun x => pk x.1) := h8
   rw [← Array.getElem?_toList, h10, h9]
  have hst : (Instr.keyThatStays (((es[j]?).map (·.key)).getD (pk k)) (pk k)).run P w = .ok (pk k) w := by rw [hkey]; exact O8 k
  have hs := MapKept.run_setObj_map (P := P) (.map (es.modify j fun e => { e with key := pk k, val := v }) clock) hb
  refine ⟨{ w with heap := w.heap.setIfInBounds b (.map (es.modify j fun e => { e with key := pk k, val := v }) clock) }, by simp [Instr.mapUpdate, aX, hg, run_checkKey ht, hfk, hst, hs], ⟨es.modify j fun e => { e with key := pk k, val := v }, clock, ?_, ?_⟩, by simp, rfl, rfl, rfl, fun m hm => ?_⟩
  ·have := (Array.getElem?_eq_some_iff.1 hb).1
   simp [this]
  ·have hpl : uE l k v = l.set j (k, v) := by
    unfold uE; rw [hl0]
    exact Ky hu v h5
   rw [hpl]
   apply List.ext_getElem?
   intro m
   have h8 := congrArg (fun q => q[m]?) hl
   simp only [List.getElem?_map] at h8
   rw [List.getElem?_map, List.getElem?_map, Array.getElem?_toList, Array.getElem?_modify, List.getElem?_set]
   have hjl : j < l.length := by
    cases hlj : l[j]? with
    | none => rw [hlj] at h5; cases h5
    | some y => exact (List.getElem?_eq_some_iff.1 hlj).1
   have YH : j < es.size := by have := congrArg List.length hl; simp at this; omega
   by_cases e : j = m
   ·subst e
    rw [if_pos rfl, if_pos rfl, if_pos hjl, Array.getElem?_eq_getElem YH]
    rfl
   ·rw [if_neg e, if_neg e, ← Array.getElem?_toList]; exact h8
  ·simp [Ne.symm hm]
theorem Pb {mt t e el : TypeId} (hm : P.underlying mt = some (.map t el)) (ht : P.underlying t = some (.pointer e)) (he : ∀ w, (sizeOf e).run P w = .ok 3 w) {z : Value} (hz : ∀ w, (zeroValue el).run P w = .ok z w) {b : Nat} {l : List (Option Nat × Value)} (h : jB w b l) {k : Option Nat}
  (hk : gm w k) (hok : ∀ x ∈ l, gm w x.1) : (Instr.lookup mt (.map (some b)) (pk k) false).run P w = .ok ((l.lookup k).getD z) w := by
 cases hl0 : l.lookup k with
 | some v => exact wk hm ht he h hk hok hl0
 | none =>
  obtain ⟨es, clock, hb, hl⟩ := h
  have hu := run_underlying (w := w) hm
  have hg := MapKept.run_getObj_map (P := P) hb
  rcases run_findKey ht he hk es.toList l hl hok with ⟨h1, h2⟩ | ⟨j, v', h1, h2⟩
  ·simp [Instr.lookup, hu, hg, run_checkKey ht, h2, hz]
  ·rw [h1] at hl0; cases hl0
end
section
variable {F : Fence} {nF : Nat} {P : Program} {ops : Array Oper} {o : Oper} {a : Act} {w : World} {K : Act → World → Prop} {Q : Exit → Act → World → Prop} {E : Prop}
theorem lN (hgd : o.guard = none) (s x : Operand) (t : TypeId) (ho : o.op = .call { callee := .builtin .append, args := #[s, x], argTypes := #[t, t] })
  (base : Nat) (e : TypeId) (z : Value) (bytes : Nat) (ht : P.underlying t = some (.slice e)) (hinfo : (P.info? e).map (fun i => (i.zero, i.size, i.bytes)) = some (some z, 1, bytes))
  (hz1 : z.cells.size = 1) (nU : bytes ≤ 64) {v : Value} {vs : List Value} (hs : a.eval s = v) (hown : aA base e w v vs) (u : Value) (B : Nat)
  (hx : a.eval x = .slice (some ⟨B, 0, none⟩) 1 1) (hB : w.cell? ⟨B, 0, none⟩ = some u) (h1 : u.oneCell' = true) (hn : vs.length ≤ 1000000) (hbase : base ≤ w.heap.size)
  (h : ∀ g cap w', aA base e w' (.slice (some ⟨g, 0, none⟩) (vs.length + 1) cap) (vs ++ [u]) → w.grownBy w' v.ownBlock → (v.ownBlock = some g ∨ g = w.heap.size) → Below base w w' → K (a.put o.dst (.slice (some ⟨g, 0, none⟩) (vs.length + 1) cap)) w') :
  if Region.wanted o (yielded ops a.tmps) = true then Oper.wpIn F nF P o a w K Q else E := by
 have hw : Region.wanted o (yielded ops a.tmps) = true := by simp [Region.wanted, hgd]
 rw [if_pos hw]
 obtain ⟨i, hi, hzz⟩ := Option.map_eq_some_iff.1 hinfo
 simp only [Prod.mk.injEq] at hzz
 obtain ⟨hz, hs1, hb⟩ := hzz
 obtain ⟨g, cap, w', hr, h2, h3, h4, _⟩ := run_append_lies (P := P) w t o.type base e i z 1 bytes ht hi hz hs1 hb hz1 (by omega) v vs.length vs hown ⟨B, 0, none⟩ 1 1 [u] rfl (fun j u' hj => by
  cases j with
  | zero => (simp at hj; subst hj; simpa [Addr.add] using hB)
  | succ j => simp at hj) (by simpa using h1) (by omega) (by unfold maxLen; omega) (by have : (vs.length + 1) * bytes ≤ (vs.length + 1) * 64 := Nat.mul_le_mul_left _ nU; omega) hbase _ rfl
 unfold Oper.wpIn
 refine ⟨by simp [Oper.about, ho, resolve, Target.leads, Sem.run_pure], ?_⟩
 rw [Oper.semAt_plain F _ _ (by rw [ho]; intro c hc'; cases hc')]
 simp [execOp, ho, resolve, invoke, builtin, hs, hx, hr, Result.andThen]
 exact h g cap w' (by unfold aA; rw [List.length_append]; exact h2) h3 h4 (hown.dJ h3 hbase)
end
end
section
open Go.RowKit Go.Deep
theorem Tryz.jf : (Tryz.prog.info? 9).map (fun i => (i.zero, i.size, i.bytes)) = some (some (.string ⟨#[]⟩), 1, 16) := by kernel_rfl
structure GK (tb : Nat) (w W : World) (P N P' N' : Value) : Prop where
 os : W.os = w.os
 tape : W.tape = w.tape
 output : W.output = w.output
 size : w.heap.size ≤ W.heap.size
 block : ∀ b, b < w.heap.size → b ≠ tb → some b ≠ P.ownBlock → some b ≠ N.ownBlock → W.heap[b]? = w.heap[b]?
 o6 : ∀ b, P'.ownBlock = some b → P.ownBlock = some b ∨ w.heap.size ≤ b
 o7 : ∀ b, N'.ownBlock = some b → N.ownBlock = some b ∨ w.heap.size ≤ b
theorem GK.refl (tb : Nat) (w : World) (P N : Value) : GK tb w w P N P N := ⟨rfl, rfl, rfl, Nat.le_refl _, fun _ _ _ _ _ => rfl, fun _ h => .inl h, fun _ h => .inl h⟩
theorem GK.trans {tb : Nat} {w W X : World} {P N P' N' P2 N2 : Value} (h : GK tb w W P N P' N') (k : GK tb W X P' N' P2 N2) : GK tb w X P N P2 N2 :=
 ⟨k.os.trans h.os, k.tape.trans h.tape, k.output.trans h.output, Nat.le_trans h.size k.size, fun b hb h1 h2 h3 => by
  rw [← h.block b hb h1 h2 h3]
  refine k.block b (Nat.lt_of_lt_of_le hb h.size) h1 (fun e => ?_) (fun e => ?_)
  ·rcases h.o6 b e.symm with h4 | h4
   ·exact h2 h4.symm
   ·omega
  ·rcases h.o7 b e.symm with h4 | h4
   ·exact h3 h4.symm
   ·omega,
  fun b hb => by
   rcases k.o6 b hb with h4 | h4
   ·exact h.o6 b h4
   ·exact .inr (Nat.le_trans h.size h4),
  fun b hb => by
   rcases k.o7 b hb with h4 | h4
   ·exact h.o7 b h4
   ·exact .inr (Nat.le_trans h.size h4)⟩
theorem GK.up {tb : Nat} {w W X : World} {P N P' N' : Value} (h : GK tb w W P N P' N') (k : Up W X) : GK tb w X P N P' N' :=
 ⟨k.os.trans h.os, k.tape.trans h.tape, k.output.trans h.output, Nat.le_trans h.size k.size, fun b hb h1 h2 h3 => (Below.block k b (Nat.lt_of_lt_of_le hb h.size)).trans (h.block b hb h1 h2 h3), h.o6, h.o7⟩
structure TL (B0 : Nat) (W : World) (P N : Value) (ps : List Int) (ns : List ByteArray) : Prop where
 cV : aA B0 3 W P (ps.map (Value.int .i64))
 dN : aA B0 9 W N (ns.map Value.string)
 apart : ∀ b, P.ownBlock = some b → N.ownBlock ≠ some b
theorem aA.eV {base : Nat} {e : TypeId} {w w' : World} {v : Value} {vs : List Value} (h : aA base e w v vs) (k : ∀ b, v.ownBlock = some b → w'.heap[b]? = w.heap[b]?) : aA base e w' v vs := by
 refine ⟨h.1, ?_⟩
 rcases h.2 with h0 | ⟨g, cap, cur, rfl, hg, hc, hr⟩
 ·exact .inl h0
 ·exact .inr ⟨g, cap, cur, rfl, hg, (k g rfl).trans hc, hr⟩
structure RS (tb B0 : Nat) (w W : World) (P N Pv Nv : Value) (ps : List Int) (ns : List ByteArray) : Prop where
 gk : GK tb w W P N Pv Nv
 tl : TL B0 W Pv Nv ps ns
 same : W.heap[tb]? = w.heap[tb]?
 lo : tb < B0 ∧ B0 ≤ w.heap.size
section
variable {tb B0 : Nat} {w W W' : World} {P N Pv Nv : Value} {ps : List Int} {ns : List ByteArray}
theorem TL.up (h : TL B0 W Pv Nv ps ns) (hu : Up W W') : TL B0 W' Pv Nv ps ns :=
 ⟨h.cV.eV fun b hb => Below.block hu b (aF h.cV hb).2, h.dN.eV fun b hb => Below.block hu b (aF h.dN hb).2, h.apart⟩
end
def ax.push (t : ax) (p : Int) (s : ByteArray) : ax := ⟨t.ps ++ [p], t.ns ++ [s]⟩
end
section
open Go.RowKit Go.Deep
end
section
open Go.RowKit Go.Deep
end
section
open Go.RowKit Go.Deep
def sL (l : List (ByteArray × Value)) (k : ByteArray) (v : Value) : List (ByteArray × Value) := if (l.lookup k).isNone then l ++ [(k, v)] else l.map fun x => if x.1 = k then (k, v) else x
def SMap (w : World) (b : Nat) (l : List (ByteArray × Value)) : Prop := ∃ es clock, w.heap[b]? = some (.map es clock) ∧ es.toList.map (fun x => (x.key, x.val)) = l.map (fun x => (Value.string x.1, x.2))
def wu (l : List (ByteArray × Value)) : Prop := (l.map (·.1)).Nodup
theorem Pc (a b : ByteArray) : (a == b) = decide (a = b) := by
 obtain ⟨a⟩ := a
 obtain ⟨b⟩ := b
 have : ((⟨a⟩ : ByteArray) == ⟨b⟩) = (a == b) := rfl
 rw [this]
 by_cases h : a = b
 ·subst h; simp
 ·have h2 : ¬ (⟨a⟩ : ByteArray) = ⟨b⟩ := fun e => h (ByteArray.mk.inj e)
  rw [decide_eq_false h2]; simpa using h
theorem o8 (a : ByteArray) : (a == a) = true := by rw [Pc]; simp
theorem rA {a b : ByteArray} (h : ¬ a = b) : (a == b) = false := by rw [Pc]; simpa using h
section
variable {P : Program} {w : World}
theorem Pd (k : ByteArray) : ∀ (es : List MapEntry) (l : List (ByteArray × Value)) (i : Nat),
  es.map (fun x => (x.key, x.val)) = l.map (fun x => (Value.string x.1, x.2)) →
   (l.lookup k = none ∧ Instr.findNow .string (.string k) es i = some none) ∨ ∃ j v, l.lookup k = some v ∧ (l[j]?).map (·.1) = some k ∧ Instr.findNow .string (.string k) es i = some (some (i + j, v)) := by
 intro es
 induction es with
 | nil =>
  intro l i hl
  cases l with
  | nil => exact .inl ⟨rfl, rfl⟩
  | cons => cases hl
 | cons x es ih =>
  intro l i hl
  cases l with
  | nil => cases hl
  | cons y l =>
   simp only [List.map_cons, List.cons.injEq, Prod.mk.injEq] at hl
   obtain ⟨⟨h1, h2⟩, h3⟩ := hl
   obtain ⟨y1, y2⟩ := y
   have h1 : x.key = .string y1 := h1
   have h2 : x.val = y2 := h2
   by_cases h : k = y1
   ·subst h
    refine .inr ⟨0, y2, by rw [List.lookup_cons, o8], rfl, ?_⟩
    simp [Instr.findNow, Instr.sameNow, h1, h2, o8]
   ·have hb : (k == y1) = false := rA h
    rcases ih l (i + 1) h3 with ⟨h4, h5⟩ | ⟨j, v, h4, h5, h6⟩
    ·refine .inl ⟨by rw [List.lookup_cons, hb]; exact h4, ?_⟩
     simp [Instr.findNow, Instr.sameNow, h1, hb, h5]
    ·refine .inr ⟨j + 1, v, by rw [List.lookup_cons, hb]; exact h4, by simpa using h5, ?_⟩
     simp [Instr.findNow, Instr.sameNow, h1, hb, h6]; omega
theorem Ez {t : TypeId} (ht : P.underlying t = some .string) (k : ByteArray) (es : List MapEntry) (l : List (ByteArray × Value)) (hl : es.map (fun x => (x.key, x.val)) = l.map (fun x => (Value.string x.1, x.2))) :
  (l.lookup k = none ∧ (Instr.findKey t (.string k) es).run P w = .ok none w) ∨ ∃ j v, l.lookup k = some v ∧ (l[j]?).map (·.1) = some k ∧ (Instr.findKey t (.string k) es).run P w = .ok (some (j, v)) w := by
 have hu := run_underlying (w := w) ht
 rcases Pd k es l 0 hl with ⟨h1, h2⟩ | ⟨j, v, h1, h2, h3⟩
 ·exact .inl ⟨h1, by simp [Instr.findKey, hu, h2]⟩
 ·exact .inr ⟨j, v, h1, h2, by simp [Instr.findKey, hu, h3]⟩
theorem rB {t : TypeId} (ht : P.underlying t = some .string) (em : Bool) (k : ByteArray) : (Instr.checkKey em 10000 t (.string k)).run P w = .ok () w := by
 have hu := run_underlying (w := w) ht
 show (Instr.checkKey em (9999 + 1) t (.string k)).run P w = _
 unfold Instr.checkKey
 simp [hu]
theorem Hj {l : List (ByteArray × Value)} {k : ByteArray} : l.lookup k = none ↔ k ∉ l.map (·.1) := by
 induction l with
 | nil => simp
 | cons y l ih =>
  obtain ⟨y1, y2⟩ := y
  rw [List.lookup_cons]
  by_cases h : k = y1
  ·subst h; simp [o8]
  ·have hb : (k == y1) = false := rA h
   rw [hb]; simp only [List.map_cons, List.mem_cons, not_or]
   exact ⟨fun h2 => ⟨h, ih.1 h2⟩, fun h2 => ih.2 h2.2⟩
theorem Pe (l : List (ByteArray × Value)) (k : ByteArray) (v : Value) : (sL l k v).map (·.1) = if (l.lookup k).isNone then l.map (·.1) ++ [k] else l.map (·.1) := by
 unfold sL
 split
 ·simp
 ·rw [List.map_map]
  refine List.map_congr_left fun x _ => ?_
  show (if x.1 = k then (k, v) else x).1 = x.1
  split
  ·rename_i h; exact h.symm
  ·rfl
theorem Pf {l : List (ByteArray × Value)} (h : wu l) (k : ByteArray) (v : Value) : wu (sL l k v) := by
 unfold wu
 rw [Pe]
 split
 ·rename_i h2
  have h3 : k ∉ l.map (·.1) := Hj.1 (by simpa using h2)
  rw [List.nodup_append]
  refine ⟨h, by simp, fun a ha b hb => ?_⟩
  have : b = k := by simpa using hb
  subst this
  exact fun e => h3 (by rw [← e]; exact ha)
 ·exact h
theorem Pg {l : List (ByteArray × Value)} (h : wu l) {k : ByteArray} (v : Value) {j : Nat} (hj : (l[j]?).map (·.1) = some k) : (l.map fun x => if x.1 = k then (k, v) else x) = l.set j (k, v) := by
 apply List.ext_getElem?
 intro m
 have hjl : j < l.length := by
  cases hlj : l[j]? with
  | none => rw [hlj] at hj; cases hj
  | some y => exact (List.getElem?_eq_some_iff.1 hlj).1
 rw [List.getElem?_map, List.getElem?_set]
 by_cases e : j = m
 ·subst e
  rw [if_pos rfl, if_pos hjl]
  rw [List.getElem?_eq_getElem hjl] at hj ⊢
  have h3 : (l[j]).1 = k := by simpa using hj
  simp [h3]
 ·rw [if_neg e]
  cases hm : l[m]? with
  | none => rfl
  | some y =>
   have hml := (List.getElem?_eq_some_iff.1 hm).1
   have hne : y.1 ≠ k := fun h4 => by
    have h5 : (l.map (·.1))[m]? = (l.map (·.1))[j]? := by rw [List.getElem?_map, List.getElem?_map, hm, hj]; simp [h4]
    have h6 : m < (l.map (·.1)).length := by simpa using hml
    have h7 : j < (l.map (·.1)).length := by simpa using hjl
    rw [List.getElem?_eq_getElem h6, List.getElem?_eq_getElem h7] at h5
    injection h5 with h5
    exact e ((List.getElem_inj h).1 h5).symm
   simp [hne]
theorem SMap.made (w : World) : SMap (w.alloc (.map #[] 0)) w.heap.size [] := ⟨#[], 0, (MapKept.heap_alloc w _).1, rfl⟩
theorem SMap.same {w' : World} {b : Nat} {l : List (ByteArray × Value)} (h : SMap w b l) (hb : w'.heap[b]? = w.heap[b]?) : SMap w' b l := by
 obtain ⟨es, clock, h1, h2⟩ := h
 exact ⟨es, clock, hb.trans h1, h2⟩
theorem SMap.lt {b : Nat} {l : List (ByteArray × Value)} (h : SMap w b l) : b < w.heap.size := by
 obtain ⟨es, clock, h1, _⟩ := h
 exact (Array.getElem?_eq_some_iff.1 h1).1
theorem Sd {mt t el : TypeId} (hm : P.underlying mt = some (.map t el)) (ht : P.underlying t = some .string) {b : Nat} {l : List (ByteArray × Value)} (h : SMap w b l) (hq : wu l) (k : ByteArray) (v : Value) :
  ∃ w', (Instr.mapUpdate mt (.map (some b)) (.string k) v).run P w = .ok () w' ∧ SMap w' b (sL l k v) ∧ w'.heap.size = w.heap.size ∧ w'.os = w.os ∧ w'.tape = w.tape ∧ w'.output = w.output ∧ ∀ j, j ≠ b → w'.heap[j]? = w.heap[j]? := by
 obtain ⟨es, clock, hb, hl⟩ := h
 have hu := run_underlying (w := w) hm
 have hg := MapKept.run_getObj_map (P := P) hb
 have hbl := (Array.getElem?_eq_some_iff.1 hb).1
 rcases Ez (w := w) ht k es.toList l hl with ⟨h1, h2⟩ | ⟨j, v', h1, h5, h2⟩
 ·have hs := MapKept.run_setObj_map (P := P) (.map (es.push { key := .string k, val := v, born := clock }) (clock + 1)) hb
  refine ⟨{ w with heap := w.heap.setIfInBounds b (.map (es.push { key := .string k, val := v, born := clock }) (clock + 1)) }, by simp [Instr.mapUpdate, hu, hg, rB ht, h2, hs], ⟨es.push { key := .string k, val := v, born := clock }, clock + 1, by simp [hbl], ?_⟩, by simp, rfl, rfl, rfl, fun j hj => by simp [Ne.symm hj]⟩
  unfold sL; rw [h1]; simp [hl]
 ·have hkey : ((es[j]?).map (·.key)) = some (.string k) := by
   have h8 := congrArg (fun q => (q[j]?).map (·.1)) hl
   simp only [List.getElem?_map, Option.map_map] at h8
   have h9 : (l[j]?).map (fun x => Value.string x.1) = some (.string k) := by
    cases hlj : l[j]? with
    | none => rw [hlj] at h5; cases h5
    | some y => rw [hlj] at h5; simp at h5; simp [h5]
   have h10 : (es.toList[j]?).map (·.key) = (l[j]?).map (fun x => Value.string x.1) := h8
   rw [← Array.getElem?_toList, h10, h9]
  have hst : (Instr.keyThatStays (((es[j]?).map (·.key)).getD (.string k)) (.string k)).run P w = .ok (.string k) w := by
   rw [hkey]
   have h0 : Instr.sameBits 10000 (.string k) (.string k) = true := by simp [Instr.sameBits, o8]
   show (Instr.keyThatStays (.string k) (.string k)).run P w = _
   unfold Instr.keyThatStays
   rw [if_pos h0]; rfl
  have hs := MapKept.run_setObj_map (P := P) (.map (es.modify j fun e => { e with key := .string k, val := v }) clock) hb
  refine ⟨{ w with heap := w.heap.setIfInBounds b (.map (es.modify j fun e => { e with key := .string k, val := v }) clock) }, by simp [Instr.mapUpdate, hu, hg, rB ht, h2, hst, hs], ⟨es.modify j fun e => { e with key := .string k, val := v }, clock, by simp [hbl], ?_⟩, by simp, rfl, rfl, rfl, fun m hm => by simp [Ne.symm hm]⟩
  have hpl : sL l k v = l.set j (k, v) := by
   unfold sL; rw [h1]
   exact Pg hq v h5
  rw [hpl]
  apply List.ext_getElem?
  intro m
  have h8 := congrArg (fun q => q[m]?) hl
  simp only [List.getElem?_map] at h8
  rw [List.getElem?_map, List.getElem?_map, Array.getElem?_toList, Array.getElem?_modify, List.getElem?_set]
  have hjl : j < l.length := by
   cases hlj : l[j]? with
   | none => rw [hlj] at h5; cases h5
   | some y => exact (List.getElem?_eq_some_iff.1 hlj).1
  have YH : j < es.size := by have := congrArg List.length hl; simp at this; omega
  by_cases e : j = m
  ·subst e
   rw [if_pos rfl, if_pos rfl, if_pos hjl, Array.getElem?_eq_getElem YH]
   rfl
  ·rw [if_neg e, if_neg e, ← Array.getElem?_toList]; exact h8
theorem Ph {mt t el : TypeId} (hm : P.underlying mt = some (.map t el)) (ht : P.underlying t = some .string) {z : Value} (hz : (zeroValue el).run P w = .ok z w) {b : Nat} {l : List (ByteArray × Value)} (h : SMap w b l) (k : ByteArray) :
  (Instr.lookup mt (.map (some b)) (.string k) false).run P w = .ok ((l.lookup k).getD z) w := by
 obtain ⟨es, clock, hb, hl⟩ := h
 have hu := run_underlying (w := w) hm
 have hg := MapKept.run_getObj_map (P := P) hb
 rcases Ez (w := w) ht k es.toList l hl with ⟨h1, h2⟩ | ⟨j, v', h1, _, h2⟩
 ·simp [Instr.lookup, hu, hg, rB ht, h2, hz, h1]
 ·simp [Instr.lookup, hu, hg, rB ht, h2, h1]
end
end
end Go.Proofs.YteegefnjnikngaaGreat
