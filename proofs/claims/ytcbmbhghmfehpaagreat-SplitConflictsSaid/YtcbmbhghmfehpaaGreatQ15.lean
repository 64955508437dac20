/- What sharederror.Tree computes, plain; slices.Clone of strings. The walk of sharederror.Tree. A list of groups of the call's own; a group appended. The contract of sharederror.Groups. The walk of sharederror.Groups. Great of layer 30; slices.Contains of numbers. Contracts: Great of layer 35, fine, Support, Original, Significant. The plain law of SharederrorPairs: sets as lists; the closures of the law. The tree that grow makes is a rose tree, numbered depth first. The rose tree of nested sets: leaves, sizes, no node with one child. The reference's canonical tree is the canonical tree: its order is the sort's order. The tree of groups that are not in conflict: valid, its leaves are the names, no node has one child. Two rose trees without one-child nodes that have the same families of leaves are the same, sorted. Contracts: Support, Original, Significant of sharederror. Contracts of the references: Check of layer 30; right, check, Support, Original, Significant of layer 35. The contracts of layer 35's reference's has, common, conflict. -/
import Derived.Test.YtcbmbhghmfehpaaGreatQ14
import Derived.Test.YtcbmbhghmfehpaaGreatQ12
import Derived.Test.YtcbmbhghmfehpaaGreatQ3
import Derived.Test.YtcbmbhghmfehpaaGreatQ4
import Derived.Test.YtcbmbhghmfehpaaGreatQ13
namespace Go.Proofs.YtcbmbhghmfehpaaGreat
open Go.RowKit Go.Deep
def allN (n : Nat) : Nat := 2 ^ n - 1
/-- The sets of the inner nodes, of the first k groups. -/
def innK (l : List Grp) (all : Nat) : Nat → List Nat
  | 0 => []
  | k + 1 => if 1 < (gg l k).src.length ∧ ofS (gg l k).src ≠ all ∧ ofS (gg l k).src ∉ innK l all k then innK l all k ++ [ofS (gg l k).src] else innK l all k
def innL (l : List Grp) (all : Nat) : List Nat := innK l all l.length
theorem innK_mem {l : List Grp} {all x : Nat} : ∀ {k : Nat}, x ∈ innK l all k → ∃ j, j < k ∧ x = ofS (gg l j).src ∧ 1 < (gg l j).src.length ∧ x ≠ all
  | 0, h => by cases h
  | k + 1, h => by
    unfold innK at h
    split at h
    · rename_i hc
      rcases List.mem_append.1 h with h | h
      · obtain ⟨j, h1, h2⟩ := innK_mem h; exact ⟨j, by omega, h2⟩
      · obtain rfl : x = ofS (gg l k).src := by simpa using h
        exact ⟨k, by omega, rfl, hc.1, hc.2.1⟩
    · obtain ⟨j, h1, h2⟩ := innK_mem h; exact ⟨j, by omega, h2⟩
/-- Names of the tree are names of leaves, or empty. -/
def Nmd (Q : ByteArray → Prop) (t : Tre) : Prop := ∀ s ∈ t.ns, Q s
theorem Nmd.gs {Q : ByteArray → Prop} {t : Tre} (h : Nmd Q t) (h0 : Q ByteArray.empty) (k : Nat) : Q (gs t.ns k) := by
  by_cases hk : k < t.ns.length
  · exact h _ (by simp [YtcbmbhghmfehpaaGreat.gs, hk])
  · have : YtcbmbhghmfehpaaGreat.gs t.ns k = ByteArray.empty := by simp [YtcbmbhghmfehpaaGreat.gs, show t.ns.length ≤ k by omega]
    rw [this]; exact h0
end Go.Proofs.YtcbmbhghmfehpaaGreat
namespace Go.Proofs.YtcbmbhghmfehpaaGreat
open Go.RowKit Go.Deep
theorem nil_tree (W : World) : TreeAt Any W (.agg #[.slice none 0 0, .slice none 0 0]) ⟨[], []⟩ :=
  ⟨_, _, rfl, ⟨none, 0, rfl, Nat.le_refl _, .inl rfl⟩, ⟨none, 0, rfl, Nat.le_refl _, .inl rfl⟩⟩
theorem boxed {W : World} {B : Nat} {P N : Value} (hb : W.heap[B]? = some (Obj.cells #[P, N] 45 (0, 0))) : W.cell? ⟨B, 0, none⟩ = some P ∧ W.cell? ⟨B, 1, none⟩ = some N ∧ W.frozen? ⟨B, 0, none⟩ = false ∧ W.frozen? ⟨B, 1, none⟩ = false := by
  refine ⟨?_, ?_, ?_, ?_⟩ <;> simp [World.cell?, World.frozen?, hb]
theorem strs_take {S : Nat → Prop} {w : World} {b off n cap : Nat} {xs : List ByteArray} (h : StrsAt S w (.slice (some ⟨b, off, none⟩) n cap) xs) {k : Nat} (hk : k ≤ xs.length) : SlAt S w (.slice (some ⟨b, off, none⟩) k cap) k (fun j => .string (gs xs j)) := by
  obtain ⟨q, c, e, hn, h⟩ := h
  injection e with e1 e2 e3
  subst e1; subst e2; subst e3
  refine ⟨_, cap, rfl, by omega, ?_⟩
  rcases h with h | ⟨b', o', e, hS, h⟩
  · exact .inl (by omega)
  · exact .inr ⟨b', o', e, hS, fun j hj => h j (by omega)⟩
section
variable {P : Program} {ops : Array Oper} {rest : List Oper} {o : Oper} {a : Act} {Q : Exit → Act → World → Prop}
end
/-- The list of sets under way, in its cell. -/
def InW (w3 wr : World) (xs : List Nat) : Prop :=
  Up w3 wr ∧ ∃ sv, wr.heap[w3.heap.size]? = some (Obj.cells #[sv] 104 (0, 0)) ∧ Owns (w3.heap.size + 1) 97 wr sv (xs.map fun (x : Nat) => Value.int .u64 x) ∧ w3.heap.size + 1 ≤ wr.heap.size
theorem InW.start (w3 : World) : InW w3 (w3.alloc (.cells #[.slice none 0 0] 104)) [] :=
  ⟨Up.alloc _ _, .slice none 0 0, World.alloc_heap_new _ _, Owns.nil _ _ _, by rw [World.size_alloc]; exact Nat.le_refl _⟩
theorem InW.up {w3 wr wx : World} {xs : List Nat} (h : InW w3 wr xs) (hu : Up wr wx) : InW w3 wx xs := by
  obtain ⟨h1, sv, h2, h3, h4⟩ := h
  exact ⟨h1.trans hu, sv, (Below.block hu _ (by omega)).trans h2, h3.kept fun b _ hb => Below.block hu b hb, Nat.le_trans h4 hu.size⟩
theorem Owns.sets {base : Nat} {e : TypeId} {w : World} {v : Value} {xs : List Nat} (h : Owns base e w v (xs.map fun (x : Nat) => Value.int .u64 x)) : SetsAt (fun b => base ≤ b) w v xs := by
  have := h.slAt
  rw [List.length_map] at this
  exact this.congr fun k hk => by simp [gn, hk]
theorem InW.cell {w3 wr : World} {xs : List Nat} (h : InW w3 wr xs) : ∃ q c, wr.cell? ⟨w3.heap.size, 0, none⟩ = some (.slice q xs.length c) ∧ Owns (w3.heap.size + 1) 97 wr (.slice q xs.length c) (xs.map fun (x : Nat) => Value.int .u64 x) ∧ SetsAt Any wr (.slice q xs.length c) xs := by
  obtain ⟨_, sv, h2, h3, _⟩ := h
  obtain ⟨q, c, rfl, _⟩ := h3.form (n := xs.length) (by simp)
  exact ⟨q, c, by simp [World.cell?, h2], h3, h3.sets.sub fun _ _ _ => trivial⟩
theorem InW.app {w3 wr w8 : World} {xs : List Nat} {x : Nat} (h : InW w3 wr xs) {v : Value} (ho : Owns (w3.heap.size + 1) 97 w8 v ((xs.map fun (x : Nat) => Value.int .u64 x) ++ [.int .u64 x])) (hb : Below (w3.heap.size + 1) wr w8) :
    (∃ c, w8.cell? ⟨w3.heap.size, 0, none⟩ = some c) ∧ w8.frozen? ⟨w3.heap.size, 0, none⟩ = false ∧ InW w3 (w8.setCell ⟨w3.heap.size, 0, none⟩ v) (xs ++ [x]) := by
  obtain ⟨hu, sv, hc, _, hs⟩ := h
  have hc8 : w8.heap[w3.heap.size]? = some (Obj.cells #[sv] 104 (0, 0)) := (hb.block _ (Nat.lt_succ_self _)).trans hc
  refine ⟨⟨sv, by simp [World.cell?, hc8]⟩, by simp [World.frozen?, hc8], ?_, v, ?_, ?_, ?_⟩
  · exact Below.setCell (p := ⟨w3.heap.size, 0, none⟩) (Below.trans hu (Below.mono hb (Nat.le_succ _))) (Nat.le_refl _) _
  · simp [World.setCell, Array.getElem?_modify, hc8]
  · rw [List.map_append]
    exact ho.kept fun b hb2 _ => Below.heap_setCell w8 _ _ b (by simp only; omega)
  · rw [World.size_setCell]; exact Nat.le_trans hs hb.size
end Go.Proofs.YtcbmbhghmfehpaaGreat
namespace Go.Proofs.YtcbmbhghmfehpaaGreat
open Go.RowKit Go.Deep
def cellsG : List Grp → List Value → List Value
  | g :: gs, s :: ss => .int .i64 g.un :: .int .i64 g.st :: s :: cellsG gs ss
  | _, _ => []
def GrpsOwn (base : Nat) (T : TypeId) (w : World) (v : Value) (gs : List Grp) : Prop :=
  ∃ svs : List Value, svs.length = gs.length ∧ w.ownsRow base T 3 v gs.length (cellsG gs svs) ∧ ∀ i, i < gs.length → IntsAt (fun b => some b ≠ v.ownBlock) w (svs.getD i undef) (gg gs i).src
theorem GrpsOwn.nil (base : Nat) (T : TypeId) (w : World) : GrpsOwn base T w (.slice none 0 0) [] := ⟨[], rfl, World.ownsRow_nil _ _ _ _, fun _ hi => absurd hi (Nat.not_lt_zero _)⟩
section
variable {P : Program} {ops : Array Oper} {rest : List Oper} {o : Oper} {a : Act} {Q : Exit → Act → World → Prop}
end
end Go.Proofs.YtcbmbhghmfehpaaGreat
namespace Go.Proofs.YtcbmbhghmfehpaaGreat
open Go.RowKit Go.Deep
theorem GrpsOwn.kept {base : Nat} {T : TypeId} {w w' : World} {v : Value} {gs : List Grp} (h : GrpsOwn base T w v gs) (k : Up w w') : GrpsOwn base T w' v gs := by
  obtain ⟨svs, hl, ho, hr⟩ := h
  refine ⟨svs, hl, ⟨ho.1, ?_⟩, fun i hi => (hr i hi).keep (k.kept _)⟩
  rcases ho.2 with h1 | ⟨g, cap, cur, e, hg, hc, h2⟩
  · exact .inl h1
  · exact .inr ⟨g, cap, cur, e, hg, (Below.block k g (Array.getElem?_eq_some_iff.1 hc).1).trans hc, h2⟩
theorem GrpsOwn.lt {base : Nat} {T : TypeId} {w : World} {v : Value} {gs : List Grp} (h : GrpsOwn base T w v gs) {b : Nat} (hb : v.ownBlock = some b) : base ≤ b ∧ b < w.heap.size := by
  obtain ⟨svs, _, ho, _⟩ := h
  exact World.ownsRow.lt ho b hb
end Go.Proofs.YtcbmbhghmfehpaaGreat
namespace Go.Proofs.YtcbmbhghmfehpaaGreat
open Go.RowKit Go.Deep
/-- The group under way, in its block. -/
def GrW (wS wr : World) (u s : Int) (l : List Int) : Prop :=
  Up wS wr ∧ ∃ sv, wr.heap[wS.heap.size]? = some (Obj.cells #[.int .i64 u, .int .i64 s, sv] 37 (0, 0)) ∧ Owns (wS.heap.size + 1) 3 wr sv (l.map (Value.int .i64)) ∧ wS.heap.size + 1 ≤ wr.heap.size
theorem GrW.cells {wS wr : World} {u s : Int} {l : List Int} (h : GrW wS wr u s l) : ∃ sv, wr.cell? ⟨wS.heap.size, 0, none⟩ = some (.int .i64 u) ∧ wr.cell? ⟨wS.heap.size, 1, none⟩ = some (.int .i64 s) ∧ wr.cell? ⟨wS.heap.size, 2, none⟩ = some sv ∧ Owns (wS.heap.size + 1) 3 wr sv (l.map (Value.int .i64)) ∧ wS.heap.size + 1 ≤ wr.heap.size := by
  obtain ⟨_, sv, hc, ho, hs⟩ := h
  refine ⟨sv, ?_, ?_, ?_, ho, hs⟩ <;> simp [World.cell?, hc]
theorem GrW.app {wS wr w8 : World} {u s x : Int} {l : List Int} (h : GrW wS wr u s l) {v : Value} (ho : Owns (wS.heap.size + 1) 3 w8 v (l.map (Value.int .i64) ++ [.int .i64 x])) (hb : Below (wS.heap.size + 1) wr w8) :
    (∃ c, w8.cell? ⟨wS.heap.size, 2, none⟩ = some c) ∧ w8.frozen? ⟨wS.heap.size, 2, none⟩ = false ∧ GrW wS (w8.setCell ⟨wS.heap.size, 2, none⟩ v) u s (l ++ [x]) := by
  obtain ⟨hu, sv, hc, _, hs⟩ := h
  have hc8 : w8.heap[wS.heap.size]? = some (Obj.cells #[.int .i64 u, .int .i64 s, sv] 37 (0, 0)) := (hb.block _ (Nat.lt_succ_self _)).trans hc
  refine ⟨⟨sv, by simp [World.cell?, hc8]⟩, by simp [World.frozen?, hc8], ?_, v, ?_, ?_, ?_⟩
  · exact Below.setCell (p := ⟨wS.heap.size, 2, none⟩) (Below.trans hu (Below.mono hb (Nat.le_succ _))) (Nat.le_refl _) _
  · simp [World.setCell, Array.getElem?_modify, hc8]
  · rw [List.map_append]
    exact ho.kept fun b hb2 _ => Below.heap_setCell w8 _ _ b (by simp only; omega)
  · rw [World.size_setCell]; exact Nat.le_trans hs hb.size
end Go.Proofs.YtcbmbhghmfehpaaGreat
namespace Go.Proofs.YtcbmbhghmfehpaaGreat
open Go.RowKit Go.Deep
theorem contains_int_t (S : Nat → Prop) (w : World) (v : Value) (xs : List Int) (x : Int) (h : IntsAt S w v xs) (hn : xs.length ≤ 1000000) :
    Calls Tryz.prog 60 #[v, .int .i64 x] w fun e w' => e = .returned (.bool ((List.range xs.length).any fun j => decide (x = gi xs j))) ∧ w = w' := by
  have hx := firstIx_any (fun j => decide (x = gi xs j)) xs.length
  have HX := Lib.hid hx
  have HI := Lib.hid (index_int_t S w v xs x h hn)
  clear hx h
  go_enter Tryz.func60, Tryz.ntmps60
  go_wp2_with fail
  refine HI.out.mono ?_
  rintro e w' ⟨rfl, rfl⟩
  go_wp2_with fail
  go_ret
  exact ⟨ret_bool (by rw [← HX.out]), rfl⟩
end Go.Proofs.YtcbmbhghmfehpaaGreat
namespace Go.Proofs.YtcbmbhghmfehpaaGreat
open Go.RowKit Go.Deep
end Go.Proofs.YtcbmbhghmfehpaaGreat
namespace Go.Proofs.YtcbmbhghmfehpaaGreat
open Go.RowKit Go.Deep
theorem testBit_ofK {l : List Int} (h : Small l) (i : Nat) : ∀ {k : Nat}, k ≤ l.length → ((ofK l k).testBit i = true ↔ ∃ j, j < k ∧ gi l j = i)
  | 0, _ => by simp [ofK]
  | k + 1, hk => by
    have ih := testBit_ofK h i (k := k) (by omega)
    have hb := h k (by omega)
    show ((ofK l k ||| 2 ^ (gi l k).toNat).testBit i = true ↔ _)
    rw [Nat.testBit_or, Bool.or_eq_true, ih, Nat.testBit_two_pow, decide_eq_true_eq]
    constructor
    · rintro (⟨j, h1, h2⟩ | h1)
      · exact ⟨j, by omega, h2⟩
      · exact ⟨k, by omega, by omega⟩
    · rintro ⟨j, h1, h2⟩
      by_cases e : j = k
      · subst e; exact .inr (by omega)
      · exact .inl ⟨j, by omega, h2⟩
theorem testBit_ofS {l : List Int} (h : Small l) (i : Nat) : (ofS l).testBit i = true ↔ (i : Int) ∈ l := by
  unfold ofS
  rw [testBit_ofK h i (Nat.le_refl _)]
  constructor
  · rintro ⟨j, h1, h2⟩; rw [← h2]; exact gi_mem h1
  · intro hm
    obtain ⟨j, hj, e⟩ := List.getElem_of_mem hm
    exact ⟨j, hj, by simp [gi, hj, e]⟩
theorem ofS_u64 {l : List Int} (h : Small l) : U64 (ofS l) := Nat.lt_trans (ofS_lt h) (by decide)
theorem small_mem {l : List Int} (h : Small l) {x : Int} (hx : x ∈ l) : ∃ i : Nat, x = i ∧ i < 32 := by
  obtain ⟨j, hj, e⟩ := List.getElem_of_mem hx
  have h1 := h j hj
  have h2 : gi l j = x := by simp [gi, hj, e]
  rw [h2] at h1
  exact ⟨x.toNat, by omega, by omega⟩
end Go.Proofs.YtcbmbhghmfehpaaGreat
namespace Go.Proofs.YtcbmbhghmfehpaaGreat
end Go.Proofs.YtcbmbhghmfehpaaGreat
namespace Go.Proofs.YtcbmbhghmfehpaaGreat
def bitsN (n x : Nat) : List Nat := (List.range n).filter fun i => x.testBit i
theorem mem_bitsN {n x i : Nat} : i ∈ bitsN n x ↔ i < n ∧ x.testBit i = true := by unfold bitsN; rw [List.mem_filter, List.mem_range]
structure Lam (inner : List Nat) (n : Nat) : Prop where
  u : ∀ y ∈ inner, U64 y
  sub : ∀ y ∈ inner, ∀ i, y.testBit i = true → i < n
  two : ∀ y ∈ inner, 2 ≤ (bitsN n y).length
  lam : ∀ y ∈ inner, ∀ z ∈ inner, withinB y z = true ∨ withinB z y = true ∨ y &&& z = 0
  nd : inner.Nodup
/-- A part as it should be: inner parts without a name, leaves named, not one child. -/
def PartOk (s : RT) : Prop := (s.kids ≠ [] → s.nm.size = 0) ∧ (s.kids = [] → namedB s.nm.data.toList = true) ∧ s.kids.length ≠ 1
def fltN (l : List ByteArray) : List ByteArray := l.filter fun s => decide (s.size ≠ 0)
theorem fltN_app (a b : List ByteArray) : fltN (a ++ b) = fltN a ++ fltN b := List.filter_append _ _
theorem leafR_node {nm : ByteArray} {ks : List RT} (h : nm.size = 0) : leafR (.node nm ks) = ks.flatMap leafR := by
  have key : ∀ ks : List RT, fltN (nsRs ks) = ks.flatMap leafR := by
    intro ks
    induction ks with
    | nil => rfl
    | cons r rs ih => rw [nsRs, fltN_app, ih, List.flatMap_cons]; rfl
  show fltN (nsR _) = _
  rw [nsR, ← key]
  unfold fltN
  rw [List.filter_cons_of_neg (by simp [h])]
theorem leafR_leaf {nm : ByteArray} (h : nm.size ≠ 0) : leafR (.node nm []) = [nm] := by
  show List.filter _ (nsR _) = _
  rw [nsR, nsRs, List.filter_cons_of_pos (by simpa using h)]; rfl
end Go.Proofs.YtcbmbhghmfehpaaGreat
namespace Go.Proofs.YtcbmbhghmfehpaaGreat
open Go.RowKit Go.Deep
theorem cmpS_le_trans {a b c : ByteArray} (h : cmpS a b ≤ 0) (h' : cmpS b c ≤ 0) : cmpS a c ≤ 0 := by
  by_cases h1 : cmpS a b = 0
  · rw [cmpS_zero h1]; exact h'
  · by_cases h2 : cmpS b c = 0
    · rw [← cmpS_zero h2]; exact h
    · have := cmpS_trans (a := a) (b := b) (c := c) (by omega) (by omega); omega
theorem insR_comm {a b : RT} (h : firstR a ≠ firstR b) : ∀ l, insR a (insR b l) = insR b (insR a l)
  | [] => by
    have h1 := cmpS_anti (firstR a) (firstR b)
    have h2 : cmpS (firstR a) (firstR b) ≠ 0 := fun q => h (cmpS_zero q)
    simp only [insR]
    by_cases e : cmpS (firstR a) (firstR b) ≤ 0
    · rw [if_pos e, if_neg (by omega)]
    · rw [if_neg e, if_pos (by omega)]
  | c :: l => by
    have h1 := cmpS_anti (firstR a) (firstR b)
    have h2 : cmpS (firstR a) (firstR b) ≠ 0 := fun q => h (cmpS_zero q)
    by_cases ea : cmpS (firstR a) (firstR c) ≤ 0
    · by_cases eb : cmpS (firstR b) (firstR c) ≤ 0
      · by_cases e : cmpS (firstR a) (firstR b) ≤ 0
        · have e' : ¬ cmpS (firstR b) (firstR a) ≤ 0 := by omega
          simp only [insR, ea, eb, e, e', if_true, if_false]
        · have e' : cmpS (firstR b) (firstR a) ≤ 0 := by omega
          simp only [insR, ea, eb, e, e', if_true, if_false]
      · have e' : ¬ cmpS (firstR b) (firstR a) ≤ 0 := fun q => eb (cmpS_le_trans q ea)
        simp only [insR, ea, eb, e', if_true, if_false]
    · by_cases eb : cmpS (firstR b) (firstR c) ≤ 0
      · have e' : ¬ cmpS (firstR a) (firstR b) ≤ 0 := fun q => ea (cmpS_le_trans q eb)
        simp only [insR, ea, eb, e', if_true, if_false]
      · simp only [insR, ea, eb, if_false]
        rw [insR_comm h l]
/-- The children's first leaves differ, all the way down. -/
def Dst (r : RT) : Prop := ∀ s ∈ subR r, (s.kids.map fun k => firstR (sortR k)).Nodup
mutual
theorem nsR_subl : ∀ (r s : RT), s ∈ subR r → (nsR s).Sublist (nsR r)
  | .node nm ks, s, h => by
    rw [subR, List.mem_cons] at h
    rcases h with rfl | h
    · exact List.Sublist.refl _
    · rw [nsR]; exact (nsRs_subl ks s h).trans (List.sublist_cons_self _ _)
theorem nsRs_subl : ∀ (rs : List RT) (s : RT), s ∈ subRs rs → (nsR s).Sublist (nsRs rs)
  | [], s, h => by simp [subRs] at h
  | r :: rs, s, h => by
    rw [subRs, List.mem_append] at h
    rw [nsRs]
    rcases h with h | h
    · exact (nsR_subl r s h).trans (List.sublist_append_left _ _)
    · exact (nsRs_subl rs s h).trans (List.sublist_append_right _ _)
end
theorem leafR_sub {r s : RT} (h : s ∈ subR r) : (leafR s).Sublist (leafR r) := (nsR_subl r s h).filter _
theorem subR_self (r : RT) : r ∈ subR r := by cases r; rw [subR]; simp
theorem first_leaf : ∀ r : RT, (∀ s ∈ subR r, s.kids = [] → namedB s.nm.data.toList = true) → firstR r ∈ leafR r
  | .node nm [], h => by
    have h1 : namedB nm.data.toList = true := h (.node nm []) (subR_self _) rfl
    rw [leafR_leaf (named_size h1), firstR]; simp
  | .node nm (k :: ks), h => by
    have hk : ∀ s ∈ subR k, s ∈ subR (.node nm (k :: ks)) := fun s hs => by rw [subR, subRs]; simp [hs]
    rw [firstR]
    exact (leafR_sub (hk k (subR_self k))).subset (first_leaf k fun s hs => h s (hk s hs))
theorem mem_subRs {k : RT} : ∀ {ks : List RT}, k ∈ ks → ∀ s ∈ subR k, s ∈ subRs ks
  | b :: ks, h, s, hs => by
    rw [subRs, List.mem_append]
    rcases List.mem_cons.1 h with rfl | h
    · exact .inl hs
    · exact .inr (mem_subRs h s hs)
mutual
theorem subR_trans : ∀ (r : RT) {s u : RT}, s ∈ subR r → u ∈ subR s → u ∈ subR r
  | .node nm ks, s, u, h, hu => by
    rw [subR, List.mem_cons] at h
    rcases h with rfl | h
    · exact hu
    · rw [subR]; exact List.mem_cons_of_mem _ (subRs_trans ks h hu)
theorem subRs_trans : ∀ (rs : List RT) {s u : RT}, s ∈ subRs rs → u ∈ subR s → u ∈ subRs rs
  | [], s, u, h, _ => by simp [subRs] at h
  | r :: rs, s, u, h, hu => by
    rw [subRs, List.mem_append] at h ⊢
    rcases h with h | h
    · exact .inl (subR_trans r h hu)
    · exact .inr (subRs_trans rs h hu)
end
theorem good_dst {r : RT} (h : GoodR r) : Dst r := by
  intro s hs
  have hnd : (leafR s).Nodup := (leafR_sub hs).nodup h.nd
  obtain ⟨nm, ks⟩ := s
  show (ks.map _).Nodup
  by_cases hk : ks = []
  · subst hk; simp
  · rw [leafR_node (nm := nm) (ks := ks) (h.inn (.node nm ks) hs hk)] at hnd
    have hmem : ∀ k ∈ ks, firstR (sortR k) ∈ leafR k := fun k hk => (leafR_sort k).mem_iff.1 (first_leaf _ fun q hq hqk => by
      obtain ⟨x, hx, rfl⟩ := List.mem_map.1 ((subR_sort k).mem_iff.1 hq)
      rw [sortR_kids] at hqk
      rw [sortR_nm]
      exact h.lf x (subR_trans r hs (by rw [subR]; exact List.mem_cons_of_mem _ (mem_subRs hk x hx))) (sortRs_nil.1 hqk))
    clear hs hk
    induction ks with
    | nil => simp
    | cons k ks ih =>
      rw [List.flatMap_cons, List.nodup_append] at hnd
      rw [List.map_cons, List.nodup_cons]
      refine ⟨fun hm => ?_, ih hnd.2.1 fun q hq => hmem q (by simp [hq])⟩
      obtain ⟨q, hq, e⟩ := List.mem_map.1 hm
      exact hnd.2.2 _ (hmem k (by simp)) _ (List.mem_flatMap.2 ⟨q, hq, hmem q (by simp [hq])⟩) e.symm
end Go.Proofs.YtcbmbhghmfehpaaGreat
namespace Go.Proofs.YtcbmbhghmfehpaaGreat
theorem innK_nodup (l : List Grp) (all : Nat) : ∀ k, (innK l all k).Nodup
  | 0 => List.nodup_nil
  | k + 1 => by
    have ih := innK_nodup l all k
    unfold innK
    split
    · rename_i hc
      rw [List.nodup_append]
      refine ⟨ih, by simp, fun a ha b hb e => ?_⟩
      obtain rfl : b = ofS (gg l k).src := by simpa using hb
      subst e; exact hc.2.2 ha
    · exact ih
/-- What groups have that Tree does not refuse. -/
structure ShOk (names : List ByteArray) (l : List Grp) : Prop where
  pos : 0 < names.length
  le : names.length ≤ 32
  nm : ∀ k, k < names.length → namedB (gs names k).data.toList = true
  nd : ∀ j k, j < k → k < names.length → gs names k ≠ gs names j
  gc : gcErr l = 0
  far : ∀ k, k < l.length → ∀ x ∈ (gg l k).src, x < names.length
  cf : ∀ i k, i < k → k < l.length → confB (ofS (gg l i).src) (ofS (gg l k).src) = false
section
variable {names : List ByteArray} {l : List Grp}
theorem ShOk.small (h : ShOk names l) {k : Nat} (hk : k < l.length) : Small (gg l k).src := (srcOk_small ((gcErr_zero h.gc).2 k hk).2.2.2).1
theorem ShOk.bits (h : ShOk names l) {k : Nat} (hk : k < l.length) {i : Nat} : (ofS (gg l k).src).testBit i = true ↔ (i : Int) ∈ (gg l k).src := testBit_ofS (h.small hk) i
theorem two_bits {n x a b : Nat} (hab : a ≠ b) (ha : a ∈ bitsN n x) (hb : b ∈ bitsN n x) : 2 ≤ (bitsN n x).length := by
  have h1 : [a, b].Nodup := by simp [hab]
  have h2 : [a, b] ⊆ bitsN n x := fun y hy => by
    rcases List.mem_cons.1 hy with e | hy
    · rw [e]; exact ha
    · have e : y = b := by simpa using hy
      rw [e]; exact hb
  have := h1.length_le_of_subset h2
  simpa using this
theorem conf_cases {a b : Nat} (h : confB a b = false) : withinB a b = true ∨ withinB b a = true ∨ a &&& b = 0 := by
  unfold confB at h
  by_cases e : a &&& b = 0
  · exact .inr (.inr e)
  · cases h1 : withinB a b
    · cases h2 : withinB b a
      · rw [h1, h2] at h; simp [e] at h
      · exact .inr (.inl rfl)
    · exact .inl rfl
theorem ShOk.lam (h : ShOk names l) : Lam (innL l (allN names.length)) names.length := by
  refine ⟨fun y hy => ?_, fun y hy i hi => ?_, fun y hy => ?_, fun y hy z hz => ?_, innK_nodup _ _ _⟩
  · obtain ⟨j, hj, rfl, _⟩ := innK_mem hy
    exact ofS_u64 (h.small hj)
  · obtain ⟨j, hj, rfl, _⟩ := innK_mem hy
    have := h.far j hj _ ((h.bits hj).1 hi); omega
  · obtain ⟨j, hj, rfl, h1, _⟩ := innK_mem hy
    obtain ⟨hs, _, hm⟩ := srcOk_small ((gcErr_zero h.gc).2 j hj).2.2.2
    obtain ⟨a, ha, _⟩ := small_mem hs (gi_mem (l := (gg l j).src) (k := 0) (by omega))
    obtain ⟨b, hb, _⟩ := small_mem hs (gi_mem (l := (gg l j).src) (k := 1) h1)
    have h2 := hm 1 (by omega) h1
    have hma : (a : Int) ∈ (gg l j).src := by rw [← ha]; exact gi_mem (by omega)
    have hmb : (b : Int) ∈ (gg l j).src := by rw [← hb]; exact gi_mem h1
    refine two_bits (a := a) (b := b) (by
      have e : (1 : Nat) - 1 = 0 := rfl
      rw [e, ha, hb] at h2; omega) (mem_bitsN.2 ⟨?_, (h.bits hj).2 hma⟩) (mem_bitsN.2 ⟨?_, (h.bits hj).2 hmb⟩)
    · have := h.far j hj _ hma; omega
    · have := h.far j hj _ hmb; omega
  · obtain ⟨j, hj, rfl, _⟩ := innK_mem hy
    obtain ⟨k, hk, rfl, _⟩ := innK_mem hz
    rcases Nat.lt_trichotomy j k with e | e | e
    · exact conf_cases (h.cf j k e hk)
    · subst e
      exact .inl ((withinB_iff (ofS_u64 (h.small hj)) (ofS_u64 (h.small hj))).2 fun i hi => hi)
    · rcases conf_cases (h.cf k j e hj) with q | q | q
      · exact .inr (.inl q)
      · exact .inl q
      · exact .inr (.inr (by rw [Nat.and_comm]; exact q))
theorem range_gs (names : List ByteArray) : (List.range names.length).map (gs names) = names := by
  refine List.ext_getElem (by simp) fun i h1 h2 => ?_
  simp [gs, h2]
end
end Go.Proofs.YtcbmbhghmfehpaaGreat
namespace Go.Proofs.YtcbmbhghmfehpaaGreat
structure OkU (r : RT) : Prop where
  nd : (leafR r).Nodup
  pt : ∀ s ∈ subR r, PartOk s
theorem OkU.good {r : RT} (h : OkU r) : GoodR r := ⟨fun s hs hk => (h.pt s hs).1 hk, fun s hs hk => (h.pt s hs).2.1 hk, h.nd⟩
theorem OkU.sub {r s : RT} (h : OkU r) (hs : s ∈ subR r) : OkU s := ⟨(leafR_sub hs).nodup h.nd, fun q hq => h.pt q (subR_trans r hs hq)⟩
theorem OkU.first {r : RT} (h : OkU r) : firstR r ∈ leafR r := first_leaf r h.good.lf
theorem mem_kid {nm : ByteArray} {ks : List RT} {k : RT} (hk : k ∈ ks) : k ∈ subR (.node nm ks) := by
  rw [subR]; exact List.mem_cons_of_mem _ (mem_subRs hk k (subR_self k))
theorem OkU.leafs {nm : ByteArray} {ks : List RT} (h : OkU (.node nm ks)) (h0 : ks ≠ []) : leafR (.node nm ks) = ks.flatMap leafR :=
  leafR_node ((h.pt _ (subR_self _)).1 h0)
theorem OkU.apart {nm : ByteArray} {ks : List RT} (h : OkU (.node nm ks)) {i j : Nat} (hi : i < ks.length) (hj : j < ks.length) {x : ByteArray} (h1 : x ∈ leafR ks[i]) (h2 : x ∈ leafR ks[j]) : i = j := by
  have h0 : ks ≠ [] := fun e => by subst e; simp at hi
  have hn := h.nd
  rw [h.leafs h0, List.nodup_iff_pairwise_ne, List.pairwise_flatMap] at hn
  have hp := List.pairwise_iff_getElem.1 hn.2
  rcases Nat.lt_trichotomy i j with c | c | c
  · exact absurd rfl (hp i j hi hj c x h1 x h2)
  · exact c
  · exact absurd rfl (hp j i hj hi c x h2 x h1)
theorem OkU.same_kid {nm : ByteArray} {ks : List RT} (h : OkU (.node nm ks)) {k k' : RT} (hk : k ∈ ks) (hk' : k' ∈ ks) {x : ByteArray} (h1 : x ∈ leafR k) (h2 : x ∈ leafR k') : k = k' := by
  obtain ⟨i, hi, rfl⟩ := List.getElem_of_mem hk
  obtain ⟨j, hj, rfl⟩ := List.getElem_of_mem hk'
  have := h.apart hi hj h1 h2
  subst this; rfl
/-- A child lacks some leaf. -/
theorem OkU.lacks {nm : ByteArray} {ks : List RT} (h : OkU (.node nm ks)) {k : RT} (hk : k ∈ ks) : ∃ x ∈ leafR (.node nm ks), x ∉ leafR k := by
  have h0 : ks ≠ [] := fun e => by subst e; simp at hk
  have h1 : ks.length ≠ 1 := (h.pt _ (subR_self _)).2.2
  have h2 : 2 ≤ ks.length := by
    have := List.length_pos_of_mem hk
    omega
  obtain ⟨i, hi, rfl⟩ := List.getElem_of_mem hk
  obtain ⟨j, hj, hij⟩ : ∃ j, j < ks.length ∧ i ≠ j := by
    by_cases c : i = 0
    · exact ⟨1, by omega, by omega⟩
    · exact ⟨0, by omega, c⟩
  have hf := (h.sub (mem_kid (List.getElem_mem hj))).first
  refine ⟨firstR ks[j], ?_, fun q => hij (h.apart hi hj q hf)⟩
  rw [h.leafs h0]
  exact List.mem_flatMap.2 ⟨_, List.getElem_mem hj, hf⟩
theorem OkU.two {nm : ByteArray} {ks : List RT} (h : OkU (.node nm ks)) (h0 : ks ≠ []) (y : ByteArray) : ∃ x ∈ leafR (.node nm ks), x ≠ y := by
  obtain ⟨k, hk⟩ := List.exists_mem_of_ne_nil _ h0
  obtain ⟨x, hx, hn⟩ := h.lacks hk
  have hf := (h.sub (mem_kid hk)).first
  by_cases c : x = y
  · subst c
    refine ⟨firstR k, (leafR_sub (mem_kid hk)).subset hf, fun e => hn ?_⟩
    rw [← e]; exact hf
  · exact ⟨x, hx, c⟩
def SameL (r s : RT) : Prop := ∀ x, x ∈ leafR r ↔ x ∈ leafR s
def FamIn (r1 r2 : RT) : Prop := ∀ s ∈ subR r1, ∃ u ∈ subR r2, SameL s u
theorem fam_root {r1 r2 : RT} (h1 : FamIn r1 r2) (h2 : FamIn r2 r1) : SameL r1 r2 := by
  obtain ⟨u, hu, e⟩ := h1 r1 (subR_self _)
  obtain ⟨v, hv, f⟩ := h2 r2 (subR_self _)
  exact fun x => ⟨fun hx => (leafR_sub hu).subset ((e x).1 hx), fun hx => (leafR_sub hv).subset ((f x).1 hx)⟩
theorem mem_subRs_ex {u : RT} {ks : List RT} (h : u ∈ subRs ks) : ∃ k ∈ ks, u ∈ subR k := by
  rw [subRs_flat] at h
  obtain ⟨k, hk, hu⟩ := List.mem_flatMap.1 h
  exact ⟨k, hk, hu⟩
/-- A part below a child of the one lies below a child of the other. -/
theorem fam_kid {n1 n2 : ByteArray} {k1 k2 : List RT} (o1 : OkU (.node n1 k1)) (h1 : FamIn (.node n1 k1) (.node n2 k2)) (hs : SameL (.node n1 k1) (.node n2 k2)) {k : RT} (hk : k ∈ k1) {s : RT} (hsk : s ∈ subR k) :
    ∃ q ∈ k2, ∃ u ∈ subR q, SameL s u := by
  obtain ⟨u, hu, e⟩ := h1 s (subR_trans _ (mem_kid hk) hsk)
  rw [subR, List.mem_cons] at hu
  rcases hu with rfl | hu
  · obtain ⟨x, hx, hn⟩ := o1.lacks hk
    exact absurd ((leafR_sub hsk).subset ((e x).2 ((hs x).1 hx))) hn
  · obtain ⟨q, hq, hu⟩ := mem_subRs_ex hu
    exact ⟨q, hq, u, hu, e⟩
theorem ins_perm {a b : List RT} (h : a.Perm b) : (a.map firstR).Nodup → a.foldr insR [] = b.foldr insR [] := by
  induction h with
  | nil => intro _; rfl
  | cons x _ ih => intro hn; rw [List.foldr_cons, List.foldr_cons, ih (by rw [List.map_cons, List.nodup_cons] at hn; exact hn.2)]
  | swap x y l =>
    intro hn
    simp only [List.foldr_cons]
    rw [List.map_cons, List.nodup_cons, List.map_cons] at hn
    exact insR_comm (fun e => hn.1 (by rw [e]; simp)) _
  | trans p _ ih1 ih2 => intro hn; rw [ih1 hn, ih2 ((p.map _).nodup_iff.1 hn)]
theorem sortRs_fold : ∀ l : List RT, sortRs l = (l.map sortR).foldr insR []
  | [] => by rw [sortRs]; rfl
  | r :: l => by rw [sortRs, sortRs_fold l]; rfl
theorem size0_eq {a b : ByteArray} (ha : a.size = 0) (hb : b.size = 0) : a = b := by
  apply ByteArray.ext
  apply Array.ext
  · show a.size = b.size; omega
  · intro i hi _; have : i < a.size := hi; omega
theorem uniq_sort : ∀ (d : Nat) (r1 r2 : RT), sizeR r1 ≤ d → OkU r1 → OkU r2 → FamIn r1 r2 → FamIn r2 r1 → sortR r1 = sortR r2
  | 0, r1, _, hd, _, _, _, _ => by have := sizeR_pos r1; omega
  | d + 1, .node n1 k1, .node n2 k2, hd, o1, o2, h1, h2 => by
    have hs := fam_root h1 h2
    have hs' : SameL (.node n2 k2) (.node n1 k1) := fun x => (hs x).symm
    by_cases e1 : k1 = []
    · subst e1
      have hz1 := named_size ((o1.pt _ (subR_self _)).2.1 rfl)
      have l1 : leafR (.node n1 []) = [n1] := leafR_leaf hz1
      by_cases e2 : k2 = []
      · subst e2
        have hz2 := named_size ((o2.pt _ (subR_self _)).2.1 rfl)
        have l2 : leafR (.node n2 []) = [n2] := leafR_leaf hz2
        have := (hs n1).1 (by rw [l1]; simp)
        rw [l2, List.mem_singleton] at this
        rw [this]
      · obtain ⟨x, hx, hn⟩ := o2.two e2 n1
        have := (hs x).2 hx
        rw [l1, List.mem_singleton] at this
        exact absurd this hn
    · by_cases e2 : k2 = []
      · subst e2
        have hz2 := named_size ((o2.pt _ (subR_self _)).2.1 rfl)
        have l2 : leafR (.node n2 []) = [n2] := leafR_leaf hz2
        obtain ⟨x, hx, hn⟩ := o1.two e1 n2
        have := (hs x).1 hx
        rw [l2, List.mem_singleton] at this
        exact absurd this hn
      · have hz1 := (o1.pt _ (subR_self _)).1 e1
        have hz2 : n2.size = 0 := (o2.pt _ (subR_self _)).1 e2
        have sub1 : ∀ k ∈ k1, OkU k := fun k hk => o1.sub (mem_kid hk)
        have sub2 : ∀ k ∈ k2, OkU k := fun k hk => o2.sub (mem_kid hk)
        -- children match
        have key : ∀ {n1 n2 : ByteArray} {k1 k2 : List RT}, OkU (.node n1 k1) → OkU (.node n2 k2) → FamIn (.node n1 k1) (.node n2 k2) → FamIn (.node n2 k2) (.node n1 k1) → SameL (.node n1 k1) (.node n2 k2) → SameL (.node n2 k2) (.node n1 k1) →
            ∀ k ∈ k1, ∃ q ∈ k2, SameL k q ∧ FamIn k q ∧ FamIn q k := by
          intro n1 n2 k1 k2 o1 o2 h1 h2 hs hs' k hk
          obtain ⟨q, hq, u, hu, e⟩ := fam_kid o1 h1 hs hk (subR_self k)
          obtain ⟨k', hk', u', hu', e'⟩ := fam_kid o2 h2 hs' hq (subR_self q)
          have hf := (o1.sub (mem_kid hk)).first
          have hfq : firstR k ∈ leafR q := (leafR_sub hu).subset ((e _).1 hf)
          have hkk : k = k' := o1.same_kid hk hk' hf ((leafR_sub hu').subset ((e' _).1 hfq))
          subst hkk
          have hsame : SameL k q := fun x => ⟨fun hx => (leafR_sub hu).subset ((e x).1 hx), fun hx => (leafR_sub hu').subset ((e' x).1 hx)⟩
          refine ⟨q, hq, hsame, fun s hsk => ?_, fun s hsq => ?_⟩
          · obtain ⟨q2, hq2, v, hv, ev⟩ := fam_kid o1 h1 hs hk hsk
            have hfs := ((o1.sub (mem_kid hk)).sub hsk).first
            have := o2.same_kid hq hq2 ((hsame _).1 ((leafR_sub hsk).subset hfs)) ((leafR_sub hv).subset ((ev _).1 hfs))
            subst this
            exact ⟨v, hv, ev⟩
          · obtain ⟨q2, hq2, v, hv, ev⟩ := fam_kid o2 h2 hs' hq hsq
            have hfs := ((o2.sub (mem_kid hq)).sub hsq).first
            have := o1.same_kid hk hq2 ((hsame _).2 ((leafR_sub hsq).subset hfs)) ((leafR_sub hv).subset ((ev _).1 hfs))
            subst this
            exact ⟨v, hv, ev⟩
        have hsz : ∀ k ∈ k1, sizeR k ≤ d := fun k hk => by
          rw [sizeR] at hd
          have : ∀ l : List RT, k ∈ l → sizeR k ≤ sizeRs l := fun l => by
            induction l with
            | nil => intro h; cases h
            | cons a l ih =>
              intro h
              rw [sizeRs]
              rcases List.mem_cons.1 h with rfl | h
              · omega
              · have := ih h; omega
          have := this k1 hk
          omega
        have m1 : ∀ k ∈ k1, ∃ q ∈ k2, sortR k = sortR q := fun k hk => by
          obtain ⟨q, hq, _, f1, f2⟩ := key o1 o2 h1 h2 hs hs' k hk
          exact ⟨q, hq, uniq_sort d k q (hsz k hk) (sub1 k hk) (sub2 q hq) f1 f2⟩
        have m2 : ∀ q ∈ k2, ∃ k ∈ k1, sortR q = sortR k := fun q hq => by
          obtain ⟨k, hk, _, f1, f2⟩ := key o2 o1 h2 h1 hs' hs q hq
          exact ⟨k, hk, (uniq_sort d k q (hsz k hk) (sub1 k hk) (sub2 q hq) f2 f1).symm⟩
        have d1 : ((k1.map sortR).map firstR).Nodup := by rw [List.map_map]; exact good_dst o1.good _ (subR_self _)
        have d2 : ((k2.map sortR).map firstR).Nodup := by rw [List.map_map]; exact good_dst o2.good _ (subR_self _)
        have nd : ∀ {l : List RT}, (l.map firstR).Nodup → l.Nodup := fun {l} h => by
          unfold List.Nodup at h ⊢
          rw [List.pairwise_map] at h
          exact h.imp fun h e => h (by rw [e])
        have hp : (k1.map sortR).Perm (k2.map sortR) := (List.perm_ext_iff_of_nodup (nd d1) (nd d2)).2 fun x => by
          constructor
          · intro hx
            obtain ⟨k, hk, rfl⟩ := List.mem_map.1 hx
            obtain ⟨q, hq, e⟩ := m1 k hk
            exact List.mem_map.2 ⟨q, hq, e.symm⟩
          · intro hx
            obtain ⟨q, hq, rfl⟩ := List.mem_map.1 hx
            obtain ⟨k, hk, e⟩ := m2 q hq
            exact List.mem_map.2 ⟨k, hk, e.symm⟩
        rw [sortR, sortR, sortRs_fold, sortRs_fold, ins_perm hp d1, size0_eq (a := n1) (b := n2) hz1 hz2]
end Go.Proofs.YtcbmbhghmfehpaaGreat
namespace Go.Proofs.YtcbmbhghmfehpaaGreat
open Go.RowKit Go.Deep
section
variable {P : Program} {ops : Array Oper} {rest : List Oper} {o : Oper} {a : Act} {Q : Exit → Act → World → Prop}
end
end Go.Proofs.YtcbmbhghmfehpaaGreat
namespace Go.Proofs.YtcbmbhghmfehpaaGreat
open Go.RowKit Go.Deep
end Go.Proofs.YtcbmbhghmfehpaaGreat
namespace Go.Proofs.YtcbmbhghmfehpaaGreat
open Go.RowKit Go.Deep
/-- How many of the first numbers are in another list. -/
def comK (a b : List Int) : Nat → Nat
  | 0 => 0
  | k + 1 => comK a b k + if gi a k ∈ b then 1 else 0
theorem comK_le (a b : List Int) : ∀ k, comK a b k ≤ k
  | 0 => Nat.le_refl _
  | k + 1 => by have := comK_le a b k; rw [comK]; split <;> omega
end Go.Proofs.YtcbmbhghmfehpaaGreat
