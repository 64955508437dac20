/- Sets of sources as numbers: of, within, conflict, sources. Contracts: equal lists of lists. The contract of the reference's SameGroups, at groups that are the same. The contract of sharederror.check. The contract of sharederror.Conflicts. Contracts: Index, Contains, IndexFunc, ContainsFunc over sets; sharederror.named; Max; far. Contracts: IndexFunc, ContainsFunc over groups; far. What grow computes, plain; its closures. The walk of grow (sharederror.Tree's closure). What sharederror.Tree computes, plain; slices.Clone of strings. The walk of sharederror.Tree. A list of groups of the call's own; a group appended. The contract of sharederror.Groups. The walk of sharederror.Groups. Great of layer 30; slices.Contains of numbers. Contracts: Great of layer 35, fine, Support, Original, Significant. The plain law of SharederrorPairs: sets as lists; the closures of the law. The tree that grow makes is a rose tree, numbered depth first. The rose tree of nested sets: leaves, sizes, no node with one child. The reference's canonical tree is the canonical tree: its order is the sort's order. The tree of groups that are not in conflict: valid, its leaves are the names, no node has one child. -/
import Derived.Test.YtcbmbhghmfehpaaGreatQ13
import Derived.Laws.Bits64b
import Derived.Laws.BitsAllLaws
import Derived.Test.YtcbmbhghmfehpaaGreatQ4
import Derived.Test.YtcbmbhghmfehpaaGreatQ14
import Derived.Test.YtcbmbhghmfehpaaGreatQ3
import Derived.Deep.CutRange
import Derived.Test.YtcbmbhghmfehpaaGreatQ12
namespace Go.Proofs.YtcbmbhghmfehpaaGreat
open Go.RowKit Go.Deep
/-- The set of the first k elements. -/
def ofK (l : List Int) : Nat → Nat
  | 0 => 0
  | k + 1 => ofK l k ||| 2 ^ (gi l k).toNat
def ofS (l : List Int) : Nat := ofK l l.length
def Small (l : List Int) : Prop := ∀ k, k < l.length → 0 ≤ gi l k ∧ gi l k < 32
theorem ofK_lt {l : List Int} (h : Small l) : ∀ {k : Nat}, k ≤ l.length → ofK l k < 4294967296
  | 0, _ => by simp [ofK]
  | k + 1, hk => by
    have h1 := ofK_lt h (k := k) (by omega)
    have h2 := h k (by omega)
    have h3 : 2 ^ (gi l k).toNat < 2 ^ 32 := Nat.pow_lt_pow_right (by decide) (by omega)
    exact Nat.or_lt_two_pow (n := 32) (by omega) h3
theorem ofS_lt {l : List Int} (h : Small l) : ofS l < 4294967296 := ofK_lt h (Nat.le_refl _)
def withinB (a b : Nat) : Bool := decide (a &&& (18446744073709551615 - b) = 0)
def confB (a b : Nat) : Bool := decide (a &&& b ≠ 0) && !withinB a b && !withinB b a
/-- A list that could be the sources of a group. -/
def srcBad (l : List Int) (k : Nat) : Bool := decide (gi l k < 0) || decide (32 ≤ gi l k) || (decide (0 < k) && decide (gi l k ≤ gi l (k - 1)))
def srcOk (l : List Int) : Bool := !((List.range l.length).any (srcBad l)) && decide (0 < l.length)
end Go.Proofs.YtcbmbhghmfehpaaGreat
namespace Go.Proofs.YtcbmbhghmfehpaaGreat
open Go.RowKit Go.Deep
theorem rows_ext {xs ys : List (List Int)} (hl : xs.length = ys.length) (h : ∀ j, j < xs.length → gl xs j = gl ys j) : xs = ys := by
  refine List.ext_getElem hl fun i h1 h2 => ?_
  have := h i h1
  simpa [gl, h1, h2] using this
/-- After some draws. -/
def QD (w w' : World) : Prop := ∃ n, w' = w.drewN n
theorem QD.refl (w : World) : QD w w := ⟨0, rfl⟩
theorem QD.drewN {w w' : World} (h : QD w w') (n : Nat) : QD w (w'.drewN n) := by
  obtain ⟨m, rfl⟩ := h; exact ⟨m + n, by rw [World.drewN_drewN]⟩
theorem QD.kept {w w' : World} (h : QD w w') (S : Nat → Prop) : Kept S w w' := by
  obtain ⟨m, rfl⟩ := h; exact fun _ _ _ => rfl
theorem QD.up {w w' : World} (h : QD w w') : Up w w' := by
  obtain ⟨m, rfl⟩ := h; exact Up.drewN w m
theorem eq_quiet {P : Program} {f : FuncId} {args : Array Value} {w : World} {n : Nat} {b : Bool} (h : Calls P f args (w.drewN n) (EqPost (w.drewN n) b)) : Calls P f args (w.drewN n) fun e w'' => e = .returned (.bool b) ∧ ∃ m, w'' = w.drewN m :=
  h.mono fun _ _ ⟨he, m, hm⟩ => ⟨he, n + m, by rw [hm, World.drewN_drewN]⟩
end Go.Proofs.YtcbmbhghmfehpaaGreat
namespace Go.Proofs.YtcbmbhghmfehpaaGreat
open Go.RowKit Go.Deep
end Go.Proofs.YtcbmbhghmfehpaaGreat
namespace Go.Proofs.YtcbmbhghmfehpaaGreat
open Go.RowKit Go.Deep
def gBad (g : Grp) : Bool := decide (g.un < 0) || decide (g.st < 0) || decide (16 ≤ g.st) || !srcOk g.src
def gcErr (l : List Grp) : Int := if 256 < l.length then 4 else if (List.range l.length).any fun k => gBad (gg l k) then 1 else 0
end Go.Proofs.YtcbmbhghmfehpaaGreat
namespace Go.Proofs.YtcbmbhghmfehpaaGreat
open Go.RowKit Go.Deep
theorem Tryz.infoSI3 : (Tryz.prog.info? 26).map (fun i => (i.zero, i.size, i.bytes)) = some (some (.slice none 0 0), 1, 24) := by kernel_rfl
theorem gcErr_zero {l : List Grp} (h : gcErr l = 0) : l.length ≤ 256 ∧ ∀ k, k < l.length → 0 ≤ (gg l k).un ∧ 0 ≤ (gg l k).st ∧ (gg l k).st < 16 ∧ srcOk (gg l k).src = true := by
  unfold gcErr at h
  split at h
  · cases h
  · split at h
    · cases h
    · rename_i h1 h2
      refine ⟨by omega, fun k hk => ?_⟩
      have h3 := any_false (p := fun k => gBad (gg l k)) (by simpa using h2) hk
      unfold gBad at h3
      simp only [Bool.or_eq_false_iff, decide_eq_false_iff_not, Bool.not_eq_false'] at h3
      exact ⟨by omega, by omega, by omega, h3.2⟩
theorem srcOk_small {l : List Int} (h : srcOk l = true) : Small l ∧ 0 < l.length ∧ ∀ k, 0 < k → k < l.length → gi l (k - 1) < gi l k := by
  unfold srcOk at h
  simp only [Bool.and_eq_true, Bool.not_eq_true', decide_eq_true_eq] at h
  have h2 : ∀ k, k < l.length → srcBad l k = false := fun k hk => any_false h.1 hk
  refine ⟨fun k hk => ?_, h.2, fun k h0 hk => ?_⟩
  · have := h2 k hk
    unfold srcBad at this
    simp only [Bool.or_eq_false_iff, decide_eq_false_iff_not] at this
    omega
  · have := h2 k hk
    unfold srcBad at this
    simp only [Bool.or_eq_false_iff, decide_eq_false_iff_not, Bool.and_eq_false_imp, decide_eq_true_eq] at this
    have := this.2 h0
    omega
theorem RowsOwn.lt {base : Nat} {T : TypeId} {w : World} {d : Value} {xs : List (List Int)} (h : RowsOwn base T w d xs) {b : Nat} (hb : d.ownBlock = some b) : base ≤ b ∧ b < w.heap.size := by
  obtain ⟨vals, _, ho, _⟩ := h
  exact ownBlock_lt ho hb
theorem RowsOwn.len {base : Nat} {T : TypeId} {w : World} {d : Value} {xs : List (List Int)} (h : RowsOwn base T w d xs) : ∃ p c, d = .slice p xs.length c := by
  obtain ⟨vals, hl, ho, _⟩ := h
  obtain ⟨p, c, e, _⟩ := ho.form (n := xs.length) hl
  exact ⟨p, c, e⟩
section
variable {P : Program} {ops : Array Oper} {rest : List Oper} {o : Oper} {a : Act} {Q : Exit → Act → World → Prop}
end
end Go.Proofs.YtcbmbhghmfehpaaGreat
namespace Go.Proofs.YtcbmbhghmfehpaaGreat
open Go.RowKit Go.Shelf Go.Deep
def gn (l : List Nat) (k : Nat) : Nat := l.getD k 0
def SetsAt (S : Nat → Prop) (w : World) (v : Value) (xs : List Nat) : Prop := SlAt S w v xs.length (fun k => .int .u64 (gn xs k))
theorem SetsAt.keep {S : Nat → Prop} {w w' : World} {v : Value} {xs : List Nat} (h : SetsAt S w v xs) (k : Kept S w w') : SetsAt S w' v xs := SlAt.keep h k
theorem SetsAt.sub {S T : Nat → Prop} {w : World} {v : Value} {xs : List Nat} (h : SetsAt S w v xs) (k : ∀ b, S b → b < w.heap.size → T b) : SetsAt T w v xs := SlAt.sub h k
section
attribute [local go_sem] Oper.semAt_some
end
end Go.Proofs.YtcbmbhghmfehpaaGreat
namespace Go.Proofs.YtcbmbhghmfehpaaGreat
open Go.RowKit Go.Shelf Go.Deep
end Go.Proofs.YtcbmbhghmfehpaaGreat
namespace Go.Proofs.YtcbmbhghmfehpaaGreat
open Go.RowKit Go.Shelf Go.Deep
def U64 (x : Nat) : Prop := x < 18446744073709551616
end Go.Proofs.YtcbmbhghmfehpaaGreat
namespace Go.Proofs.YtcbmbhghmfehpaaGreat
open Go.RowKit Go.Deep
theorem withinB_iff {a b : Nat} (ha : U64 a) (hb : U64 b) : withinB a b = true ↔ ∀ i, a.testBit i = true → b.testBit i = true := by
  unfold withinB
  rw [decide_eq_true_eq]
  have e : 18446744073709551615 - b = 2 ^ 64 - (b + 1) := by unfold U64 at hb; omega
  have hb2 : b < 2 ^ 64 := hb
  have ha2 : a < 2 ^ 64 := ha
  rw [e]
  constructor
  · intro h i hi
    have h1 := congrArg (fun z => z.testBit i) h
    simp only [Nat.testBit_and, hi, Bool.true_and, Nat.zero_testBit, Nat.testBit_two_pow_sub_succ hb2] at h1
    have h64 : i < 64 := by
      rcases Nat.lt_or_ge i 64 with h2 | h2
      · exact h2
      · rw [Nat.testBit_lt_two_pow (Nat.lt_of_lt_of_le ha2 (Nat.pow_le_pow_right (by decide) h2))] at hi; cases hi
    simpa [h64] using h1
  · intro h
    refine Nat.eq_of_testBit_eq fun i => ?_
    rw [Nat.testBit_and, Nat.zero_testBit, Nat.testBit_two_pow_sub_succ hb2]
    cases hi : a.testBit i
    · rfl
    · rw [h i hi]; simp
/-- What grow sees. -/
structure Env (names : List ByteArray) (inner : List Nat) (tb B0 ib fb nb : Nat) (w : World) : Prop where
  ic : ∃ iv, w.cell? ⟨ib, 0, none⟩ = some iv ∧ SetsAt (fun b => b < B0 ∧ b ≠ tb) w iv inner
  fc : w.cell? ⟨fb, 0, none⟩ = some (.func (.func 83) #[] #[.pointer (some ⟨tb, 0, none⟩), .pointer (some ⟨ib, 0, none⟩), .pointer (some ⟨fb, 0, none⟩), .pointer (some ⟨nb, 0, none⟩)])
  nc : ∃ nv, w.cell? ⟨nb, 0, none⟩ = some nv ∧ StrsAt (fun b => b < B0 ∧ b ≠ tb) w nv names
  lo : (ib < B0 ∧ ib ≠ tb) ∧ (fb < B0 ∧ fb ≠ tb) ∧ (nb < B0 ∧ nb ≠ tb)
theorem GK.keeps {tb B0 : Nat} {w W : World} {P N P' N' : Value} {ps : List Int} {ns : List ByteArray} (h : GK tb w W P N P' N') (k : TL B0 w P N ps ns) : Kept (fun b => b < B0 ∧ b ≠ tb) w W := fun b hb hl =>
  h.block b hl hb.2 (fun e => by have := (ownBlock_lt k.pown e.symm).1; have := hb.1; omega) (fun e => by have := (ownBlock_lt k.nown e.symm).1; have := hb.1; omega)
theorem Env.keep {names : List ByteArray} {inner : List Nat} {tb B0 ib fb nb : Nat} {w W : World} (h : Env names inner tb B0 ib fb nb w) (k : Kept (fun b => b < B0 ∧ b ≠ tb) w W) : Env names inner tb B0 ib fb nb W := by
  obtain ⟨⟨iv, h1, h2⟩, h3, ⟨nv, h4, h5⟩, hl⟩ := h
  have hc : ∀ (b : Nat) (v : Value), b < B0 ∧ b ≠ tb → w.cell? ⟨b, 0, none⟩ = some v → W.cell? ⟨b, 0, none⟩ = some v := fun b v hb hv => by
    rw [World.cell?_of_block (a := ⟨b, 0, none⟩) (k b hb (World.block_lt_of_cell? w _ hv))]; exact hv
  exact ⟨⟨iv, hc _ _ hl.1 h1, h2.keep k⟩, hc _ _ hl.2.1 h3, ⟨nv, hc _ _ hl.2.2 h4, StrsAt.keep h5 k⟩, hl⟩
end Go.Proofs.YtcbmbhghmfehpaaGreat
namespace Go.Proofs.YtcbmbhghmfehpaaGreat
open Go.RowKit Go.Deep
def allN (n : Nat) : Nat := 2 ^ n - 1
/-- The sets of the inner nodes, of the first k groups. -/
def innK (l : List Grp) (all : Nat) : Nat → List Nat
  | 0 => []
  | k + 1 => if 1 < (gg l k).src.length ∧ ofS (gg l k).src ≠ all ∧ ofS (gg l k).src ∉ innK l all k then innK l all k ++ [ofS (gg l k).src] else innK l all k
def innL (l : List Grp) (all : Nat) : List Nat := innK l all l.length
theorem innK_mem {l : List Grp} {all x : Nat} : ∀ {k : Nat}, x ∈ innK l all k → ∃ j, j < k ∧ x = ofS (gg l j).src ∧ 1 < (gg l j).src.length ∧ x ≠ all
  | 0, h => by cases h
  | k + 1, h => by
    unfold innK at h
    split at h
    · rename_i hc
      rcases List.mem_append.1 h with h | h
      · obtain ⟨j, h1, h2⟩ := innK_mem h; exact ⟨j, by omega, h2⟩
      · obtain rfl : x = ofS (gg l k).src := by simpa using h
        exact ⟨k, by omega, rfl, hc.1, hc.2.1⟩
    · obtain ⟨j, h1, h2⟩ := innK_mem h; exact ⟨j, by omega, h2⟩
/-- Names of the tree are names of leaves, or empty. -/
def Nmd (Q : ByteArray → Prop) (t : Tre) : Prop := ∀ s ∈ t.ns, Q s
theorem Nmd.gs {Q : ByteArray → Prop} {t : Tre} (h : Nmd Q t) (h0 : Q ByteArray.empty) (k : Nat) : Q (gs t.ns k) := by
  by_cases hk : k < t.ns.length
  · exact h _ (by simp [YtcbmbhghmfehpaaGreat.gs, hk])
  · have : YtcbmbhghmfehpaaGreat.gs t.ns k = ByteArray.empty := by simp [YtcbmbhghmfehpaaGreat.gs, show t.ns.length ≤ k by omega]
    rw [this]; exact h0
end Go.Proofs.YtcbmbhghmfehpaaGreat
namespace Go.Proofs.YtcbmbhghmfehpaaGreat
open Go.RowKit Go.Deep
theorem nil_tree (W : World) : TreeAt Any W (.agg #[.slice none 0 0, .slice none 0 0]) ⟨[], []⟩ :=
  ⟨_, _, rfl, ⟨none, 0, rfl, Nat.le_refl _, .inl rfl⟩, ⟨none, 0, rfl, Nat.le_refl _, .inl rfl⟩⟩
theorem boxed {W : World} {B : Nat} {P N : Value} (hb : W.heap[B]? = some (Obj.cells #[P, N] 45 (0, 0))) : W.cell? ⟨B, 0, none⟩ = some P ∧ W.cell? ⟨B, 1, none⟩ = some N ∧ W.frozen? ⟨B, 0, none⟩ = false ∧ W.frozen? ⟨B, 1, none⟩ = false := by
  refine ⟨?_, ?_, ?_, ?_⟩ <;> simp [World.cell?, World.frozen?, hb]
theorem strs_take {S : Nat → Prop} {w : World} {b off n cap : Nat} {xs : List ByteArray} (h : StrsAt S w (.slice (some ⟨b, off, none⟩) n cap) xs) {k : Nat} (hk : k ≤ xs.length) : SlAt S w (.slice (some ⟨b, off, none⟩) k cap) k (fun j => .string (gs xs j)) := by
  obtain ⟨q, c, e, hn, h⟩ := h
  injection e with e1 e2 e3
  subst e1; subst e2; subst e3
  refine ⟨_, cap, rfl, by omega, ?_⟩
  rcases h with h | ⟨b', o', e, hS, h⟩
  · exact .inl (by omega)
  · exact .inr ⟨b', o', e, hS, fun j hj => h j (by omega)⟩
section
variable {P : Program} {ops : Array Oper} {rest : List Oper} {o : Oper} {a : Act} {Q : Exit → Act → World → Prop}
end
/-- The list of sets under way, in its cell. -/
def InW (w3 wr : World) (xs : List Nat) : Prop :=
  Up w3 wr ∧ ∃ sv, wr.heap[w3.heap.size]? = some (Obj.cells #[sv] 104 (0, 0)) ∧ Owns (w3.heap.size + 1) 97 wr sv (xs.map fun (x : Nat) => Value.int .u64 x) ∧ w3.heap.size + 1 ≤ wr.heap.size
theorem InW.start (w3 : World) : InW w3 (w3.alloc (.cells #[.slice none 0 0] 104)) [] :=
  ⟨Up.alloc _ _, .slice none 0 0, World.alloc_heap_new _ _, Owns.nil _ _ _, by rw [World.size_alloc]; exact Nat.le_refl _⟩
theorem InW.up {w3 wr wx : World} {xs : List Nat} (h : InW w3 wr xs) (hu : Up wr wx) : InW w3 wx xs := by
  obtain ⟨h1, sv, h2, h3, h4⟩ := h
  exact ⟨h1.trans hu, sv, (Below.block hu _ (by omega)).trans h2, h3.kept fun b _ hb => Below.block hu b hb, Nat.le_trans h4 hu.size⟩
theorem Owns.sets {base : Nat} {e : TypeId} {w : World} {v : Value} {xs : List Nat} (h : Owns base e w v (xs.map fun (x : Nat) => Value.int .u64 x)) : SetsAt (fun b => base ≤ b) w v xs := by
  have := h.slAt
  rw [List.length_map] at this
  exact this.congr fun k hk => by simp [gn, hk]
theorem InW.cell {w3 wr : World} {xs : List Nat} (h : InW w3 wr xs) : ∃ q c, wr.cell? ⟨w3.heap.size, 0, none⟩ = some (.slice q xs.length c) ∧ Owns (w3.heap.size + 1) 97 wr (.slice q xs.length c) (xs.map fun (x : Nat) => Value.int .u64 x) ∧ SetsAt Any wr (.slice q xs.length c) xs := by
  obtain ⟨_, sv, h2, h3, _⟩ := h
  obtain ⟨q, c, rfl, _⟩ := h3.form (n := xs.length) (by simp)
  exact ⟨q, c, by simp [World.cell?, h2], h3, h3.sets.sub fun _ _ _ => trivial⟩
theorem InW.app {w3 wr w8 : World} {xs : List Nat} {x : Nat} (h : InW w3 wr xs) {v : Value} (ho : Owns (w3.heap.size + 1) 97 w8 v ((xs.map fun (x : Nat) => Value.int .u64 x) ++ [.int .u64 x])) (hb : Below (w3.heap.size + 1) wr w8) :
    (∃ c, w8.cell? ⟨w3.heap.size, 0, none⟩ = some c) ∧ w8.frozen? ⟨w3.heap.size, 0, none⟩ = false ∧ InW w3 (w8.setCell ⟨w3.heap.size, 0, none⟩ v) (xs ++ [x]) := by
  obtain ⟨hu, sv, hc, _, hs⟩ := h
  have hc8 : w8.heap[w3.heap.size]? = some (Obj.cells #[sv] 104 (0, 0)) := (hb.block _ (Nat.lt_succ_self _)).trans hc
  refine ⟨⟨sv, by simp [World.cell?, hc8]⟩, by simp [World.frozen?, hc8], ?_, v, ?_, ?_, ?_⟩
  · exact Below.setCell (p := ⟨w3.heap.size, 0, none⟩) (Below.trans hu (Below.mono hb (Nat.le_succ _))) (Nat.le_refl _) _
  · simp [World.setCell, Array.getElem?_modify, hc8]
  · rw [List.map_append]
    exact ho.kept fun b hb2 _ => Below.heap_setCell w8 _ _ b (by simp only; omega)
  · rw [World.size_setCell]; exact Nat.le_trans hs hb.size
end Go.Proofs.YtcbmbhghmfehpaaGreat
namespace Go.Proofs.YtcbmbhghmfehpaaGreat
open Go.RowKit Go.Deep
def cellsG : List Grp → List Value → List Value
  | g :: gs, s :: ss => .int .i64 g.un :: .int .i64 g.st :: s :: cellsG gs ss
  | _, _ => []
def GrpsOwn (base : Nat) (T : TypeId) (w : World) (v : Value) (gs : List Grp) : Prop :=
  ∃ svs : List Value, svs.length = gs.length ∧ w.ownsRow base T 3 v gs.length (cellsG gs svs) ∧ ∀ i, i < gs.length → IntsAt (fun b => some b ≠ v.ownBlock) w (svs.getD i undef) (gg gs i).src
theorem GrpsOwn.nil (base : Nat) (T : TypeId) (w : World) : GrpsOwn base T w (.slice none 0 0) [] := ⟨[], rfl, World.ownsRow_nil _ _ _ _, fun _ hi => absurd hi (Nat.not_lt_zero _)⟩
section
variable {P : Program} {ops : Array Oper} {rest : List Oper} {o : Oper} {a : Act} {Q : Exit → Act → World → Prop}
end
end Go.Proofs.YtcbmbhghmfehpaaGreat
namespace Go.Proofs.YtcbmbhghmfehpaaGreat
open Go.RowKit Go.Deep
theorem GrpsOwn.kept {base : Nat} {T : TypeId} {w w' : World} {v : Value} {gs : List Grp} (h : GrpsOwn base T w v gs) (k : Up w w') : GrpsOwn base T w' v gs := by
  obtain ⟨svs, hl, ho, hr⟩ := h
  refine ⟨svs, hl, ⟨ho.1, ?_⟩, fun i hi => (hr i hi).keep (k.kept _)⟩
  rcases ho.2 with h1 | ⟨g, cap, cur, e, hg, hc, h2⟩
  · exact .inl h1
  · exact .inr ⟨g, cap, cur, e, hg, (Below.block k g (Array.getElem?_eq_some_iff.1 hc).1).trans hc, h2⟩
theorem GrpsOwn.lt {base : Nat} {T : TypeId} {w : World} {v : Value} {gs : List Grp} (h : GrpsOwn base T w v gs) {b : Nat} (hb : v.ownBlock = some b) : base ≤ b ∧ b < w.heap.size := by
  obtain ⟨svs, _, ho, _⟩ := h
  exact World.ownsRow.lt ho b hb
end Go.Proofs.YtcbmbhghmfehpaaGreat
namespace Go.Proofs.YtcbmbhghmfehpaaGreat
open Go.RowKit Go.Deep
/-- The group under way, in its block. -/
def GrW (wS wr : World) (u s : Int) (l : List Int) : Prop :=
  Up wS wr ∧ ∃ sv, wr.heap[wS.heap.size]? = some (Obj.cells #[.int .i64 u, .int .i64 s, sv] 37 (0, 0)) ∧ Owns (wS.heap.size + 1) 3 wr sv (l.map (Value.int .i64)) ∧ wS.heap.size + 1 ≤ wr.heap.size
theorem GrW.cells {wS wr : World} {u s : Int} {l : List Int} (h : GrW wS wr u s l) : ∃ sv, wr.cell? ⟨wS.heap.size, 0, none⟩ = some (.int .i64 u) ∧ wr.cell? ⟨wS.heap.size, 1, none⟩ = some (.int .i64 s) ∧ wr.cell? ⟨wS.heap.size, 2, none⟩ = some sv ∧ Owns (wS.heap.size + 1) 3 wr sv (l.map (Value.int .i64)) ∧ wS.heap.size + 1 ≤ wr.heap.size := by
  obtain ⟨_, sv, hc, ho, hs⟩ := h
  refine ⟨sv, ?_, ?_, ?_, ho, hs⟩ <;> simp [World.cell?, hc]
theorem GrW.app {wS wr w8 : World} {u s x : Int} {l : List Int} (h : GrW wS wr u s l) {v : Value} (ho : Owns (wS.heap.size + 1) 3 w8 v (l.map (Value.int .i64) ++ [.int .i64 x])) (hb : Below (wS.heap.size + 1) wr w8) :
    (∃ c, w8.cell? ⟨wS.heap.size, 2, none⟩ = some c) ∧ w8.frozen? ⟨wS.heap.size, 2, none⟩ = false ∧ GrW wS (w8.setCell ⟨wS.heap.size, 2, none⟩ v) u s (l ++ [x]) := by
  obtain ⟨hu, sv, hc, _, hs⟩ := h
  have hc8 : w8.heap[wS.heap.size]? = some (Obj.cells #[.int .i64 u, .int .i64 s, sv] 37 (0, 0)) := (hb.block _ (Nat.lt_succ_self _)).trans hc
  refine ⟨⟨sv, by simp [World.cell?, hc8]⟩, by simp [World.frozen?, hc8], ?_, v, ?_, ?_, ?_⟩
  · exact Below.setCell (p := ⟨wS.heap.size, 2, none⟩) (Below.trans hu (Below.mono hb (Nat.le_succ _))) (Nat.le_refl _) _
  · simp [World.setCell, Array.getElem?_modify, hc8]
  · rw [List.map_append]
    exact ho.kept fun b hb2 _ => Below.heap_setCell w8 _ _ b (by simp only; omega)
  · rw [World.size_setCell]; exact Nat.le_trans hs hb.size
end Go.Proofs.YtcbmbhghmfehpaaGreat
namespace Go.Proofs.YtcbmbhghmfehpaaGreat
open Go.RowKit Go.Deep
theorem contains_int_t (S : Nat → Prop) (w : World) (v : Value) (xs : List Int) (x : Int) (h : IntsAt S w v xs) (hn : xs.length ≤ 1000000) :
    Calls Tryz.prog 60 #[v, .int .i64 x] w fun e w' => e = .returned (.bool ((List.range xs.length).any fun j => decide (x = gi xs j))) ∧ w = w' := by
  have hx := firstIx_any (fun j => decide (x = gi xs j)) xs.length
  have HX := Lib.hid hx
  have HI := Lib.hid (index_int_t S w v xs x h hn)
  clear hx h
  go_enter Tryz.func60, Tryz.ntmps60
  go_wp2_with fail
  refine HI.out.mono ?_
  rintro e w' ⟨rfl, rfl⟩
  go_wp2_with fail
  go_ret
  exact ⟨ret_bool (by rw [← HX.out]), rfl⟩
end Go.Proofs.YtcbmbhghmfehpaaGreat
namespace Go.Proofs.YtcbmbhghmfehpaaGreat
open Go.RowKit Go.Deep
end Go.Proofs.YtcbmbhghmfehpaaGreat
namespace Go.Proofs.YtcbmbhghmfehpaaGreat
open Go.RowKit Go.Deep
theorem testBit_ofK {l : List Int} (h : Small l) (i : Nat) : ∀ {k : Nat}, k ≤ l.length → ((ofK l k).testBit i = true ↔ ∃ j, j < k ∧ gi l j = i)
  | 0, _ => by simp [ofK]
  | k + 1, hk => by
    have ih := testBit_ofK h i (k := k) (by omega)
    have hb := h k (by omega)
    show ((ofK l k ||| 2 ^ (gi l k).toNat).testBit i = true ↔ _)
    rw [Nat.testBit_or, Bool.or_eq_true, ih, Nat.testBit_two_pow, decide_eq_true_eq]
    constructor
    · rintro (⟨j, h1, h2⟩ | h1)
      · exact ⟨j, by omega, h2⟩
      · exact ⟨k, by omega, by omega⟩
    · rintro ⟨j, h1, h2⟩
      by_cases e : j = k
      · subst e; exact .inr (by omega)
      · exact .inl ⟨j, by omega, h2⟩
theorem testBit_ofS {l : List Int} (h : Small l) (i : Nat) : (ofS l).testBit i = true ↔ (i : Int) ∈ l := by
  unfold ofS
  rw [testBit_ofK h i (Nat.le_refl _)]
  constructor
  · rintro ⟨j, h1, h2⟩; rw [← h2]; exact gi_mem h1
  · intro hm
    obtain ⟨j, hj, e⟩ := List.getElem_of_mem hm
    exact ⟨j, hj, by simp [gi, hj, e]⟩
theorem ofS_u64 {l : List Int} (h : Small l) : U64 (ofS l) := Nat.lt_trans (ofS_lt h) (by decide)
theorem small_mem {l : List Int} (h : Small l) {x : Int} (hx : x ∈ l) : ∃ i : Nat, x = i ∧ i < 32 := by
  obtain ⟨j, hj, e⟩ := List.getElem_of_mem hx
  have h1 := h j hj
  have h2 : gi l j = x := by simp [gi, hj, e]
  rw [h2] at h1
  exact ⟨x.toNat, by omega, by omega⟩
end Go.Proofs.YtcbmbhghmfehpaaGreat
namespace Go.Proofs.YtcbmbhghmfehpaaGreat
end Go.Proofs.YtcbmbhghmfehpaaGreat
namespace Go.Proofs.YtcbmbhghmfehpaaGreat
def bitsN (n x : Nat) : List Nat := (List.range n).filter fun i => x.testBit i
theorem mem_bitsN {n x i : Nat} : i ∈ bitsN n x ↔ i < n ∧ x.testBit i = true := by unfold bitsN; rw [List.mem_filter, List.mem_range]
structure Lam (inner : List Nat) (n : Nat) : Prop where
  u : ∀ y ∈ inner, U64 y
  sub : ∀ y ∈ inner, ∀ i, y.testBit i = true → i < n
  two : ∀ y ∈ inner, 2 ≤ (bitsN n y).length
  lam : ∀ y ∈ inner, ∀ z ∈ inner, withinB y z = true ∨ withinB z y = true ∨ y &&& z = 0
  nd : inner.Nodup
/-- A part as it should be: inner parts without a name, leaves named, not one child. -/
def PartOk (s : RT) : Prop := (s.kids ≠ [] → s.nm.size = 0) ∧ (s.kids = [] → namedB s.nm.data.toList = true) ∧ s.kids.length ≠ 1
def fltN (l : List ByteArray) : List ByteArray := l.filter fun s => decide (s.size ≠ 0)
theorem fltN_app (a b : List ByteArray) : fltN (a ++ b) = fltN a ++ fltN b := List.filter_append _ _
theorem leafR_node {nm : ByteArray} {ks : List RT} (h : nm.size = 0) : leafR (.node nm ks) = ks.flatMap leafR := by
  have key : ∀ ks : List RT, fltN (nsRs ks) = ks.flatMap leafR := by
    intro ks
    induction ks with
    | nil => rfl
    | cons r rs ih => rw [nsRs, fltN_app, ih, List.flatMap_cons]; rfl
  show fltN (nsR _) = _
  rw [nsR, ← key]
  unfold fltN
  rw [List.filter_cons_of_neg (by simp [h])]
theorem leafR_leaf {nm : ByteArray} (h : nm.size ≠ 0) : leafR (.node nm []) = [nm] := by
  show List.filter _ (nsR _) = _
  rw [nsR, nsRs, List.filter_cons_of_pos (by simpa using h)]; rfl
end Go.Proofs.YtcbmbhghmfehpaaGreat
namespace Go.Proofs.YtcbmbhghmfehpaaGreat
open Go.RowKit Go.Deep
theorem cmpS_le_trans {a b c : ByteArray} (h : cmpS a b ≤ 0) (h' : cmpS b c ≤ 0) : cmpS a c ≤ 0 := by
  by_cases h1 : cmpS a b = 0
  · rw [cmpS_zero h1]; exact h'
  · by_cases h2 : cmpS b c = 0
    · rw [← cmpS_zero h2]; exact h
    · have := cmpS_trans (a := a) (b := b) (c := c) (by omega) (by omega); omega
theorem insR_comm {a b : RT} (h : firstR a ≠ firstR b) : ∀ l, insR a (insR b l) = insR b (insR a l)
  | [] => by
    have h1 := cmpS_anti (firstR a) (firstR b)
    have h2 : cmpS (firstR a) (firstR b) ≠ 0 := fun q => h (cmpS_zero q)
    simp only [insR]
    by_cases e : cmpS (firstR a) (firstR b) ≤ 0
    · rw [if_pos e, if_neg (by omega)]
    · rw [if_neg e, if_pos (by omega)]
  | c :: l => by
    have h1 := cmpS_anti (firstR a) (firstR b)
    have h2 : cmpS (firstR a) (firstR b) ≠ 0 := fun q => h (cmpS_zero q)
    by_cases ea : cmpS (firstR a) (firstR c) ≤ 0
    · by_cases eb : cmpS (firstR b) (firstR c) ≤ 0
      · by_cases e : cmpS (firstR a) (firstR b) ≤ 0
        · have e' : ¬ cmpS (firstR b) (firstR a) ≤ 0 := by omega
          simp only [insR, ea, eb, e, e', if_true, if_false]
        · have e' : cmpS (firstR b) (firstR a) ≤ 0 := by omega
          simp only [insR, ea, eb, e, e', if_true, if_false]
      · have e' : ¬ cmpS (firstR b) (firstR a) ≤ 0 := fun q => eb (cmpS_le_trans q ea)
        simp only [insR, ea, eb, e', if_true, if_false]
    · by_cases eb : cmpS (firstR b) (firstR c) ≤ 0
      · have e' : ¬ cmpS (firstR a) (firstR b) ≤ 0 := fun q => ea (cmpS_le_trans q eb)
        simp only [insR, ea, eb, e', if_true, if_false]
      · simp only [insR, ea, eb, if_false]
        rw [insR_comm h l]
/-- The children's first leaves differ, all the way down. -/
def Dst (r : RT) : Prop := ∀ s ∈ subR r, (s.kids.map fun k => firstR (sortR k)).Nodup
mutual
theorem nsR_subl : ∀ (r s : RT), s ∈ subR r → (nsR s).Sublist (nsR r)
  | .node nm ks, s, h => by
    rw [subR, List.mem_cons] at h
    rcases h with rfl | h
    · exact List.Sublist.refl _
    · rw [nsR]; exact (nsRs_subl ks s h).trans (List.sublist_cons_self _ _)
theorem nsRs_subl : ∀ (rs : List RT) (s : RT), s ∈ subRs rs → (nsR s).Sublist (nsRs rs)
  | [], s, h => by simp [subRs] at h
  | r :: rs, s, h => by
    rw [subRs, List.mem_append] at h
    rw [nsRs]
    rcases h with h | h
    · exact (nsR_subl r s h).trans (List.sublist_append_left _ _)
    · exact (nsRs_subl rs s h).trans (List.sublist_append_right _ _)
end
theorem leafR_sub {r s : RT} (h : s ∈ subR r) : (leafR s).Sublist (leafR r) := (nsR_subl r s h).filter _
theorem subR_self (r : RT) : r ∈ subR r := by cases r; rw [subR]; simp
theorem first_leaf : ∀ r : RT, (∀ s ∈ subR r, s.kids = [] → namedB s.nm.data.toList = true) → firstR r ∈ leafR r
  | .node nm [], h => by
    have h1 : namedB nm.data.toList = true := h (.node nm []) (subR_self _) rfl
    rw [leafR_leaf (named_size h1), firstR]; simp
  | .node nm (k :: ks), h => by
    have hk : ∀ s ∈ subR k, s ∈ subR (.node nm (k :: ks)) := fun s hs => by rw [subR, subRs]; simp [hs]
    rw [firstR]
    exact (leafR_sub (hk k (subR_self k))).subset (first_leaf k fun s hs => h s (hk s hs))
theorem mem_subRs {k : RT} : ∀ {ks : List RT}, k ∈ ks → ∀ s ∈ subR k, s ∈ subRs ks
  | b :: ks, h, s, hs => by
    rw [subRs, List.mem_append]
    rcases List.mem_cons.1 h with rfl | h
    · exact .inl hs
    · exact .inr (mem_subRs h s hs)
mutual
theorem subR_trans : ∀ (r : RT) {s u : RT}, s ∈ subR r → u ∈ subR s → u ∈ subR r
  | .node nm ks, s, u, h, hu => by
    rw [subR, List.mem_cons] at h
    rcases h with rfl | h
    · exact hu
    · rw [subR]; exact List.mem_cons_of_mem _ (subRs_trans ks h hu)
theorem subRs_trans : ∀ (rs : List RT) {s u : RT}, s ∈ subRs rs → u ∈ subR s → u ∈ subRs rs
  | [], s, u, h, _ => by simp [subRs] at h
  | r :: rs, s, u, h, hu => by
    rw [subRs, List.mem_append] at h ⊢
    rcases h with h | h
    · exact .inl (subR_trans r h hu)
    · exact .inr (subRs_trans rs h hu)
end
theorem good_dst {r : RT} (h : GoodR r) : Dst r := by
  intro s hs
  have hnd : (leafR s).Nodup := (leafR_sub hs).nodup h.nd
  obtain ⟨nm, ks⟩ := s
  show (ks.map _).Nodup
  by_cases hk : ks = []
  · subst hk; simp
  · rw [leafR_node (nm := nm) (ks := ks) (h.inn (.node nm ks) hs hk)] at hnd
    have hmem : ∀ k ∈ ks, firstR (sortR k) ∈ leafR k := fun k hk => (leafR_sort k).mem_iff.1 (first_leaf _ fun q hq hqk => by
      obtain ⟨x, hx, rfl⟩ := List.mem_map.1 ((subR_sort k).mem_iff.1 hq)
      rw [sortR_kids] at hqk
      rw [sortR_nm]
      exact h.lf x (subR_trans r hs (by rw [subR]; exact List.mem_cons_of_mem _ (mem_subRs hk x hx))) (sortRs_nil.1 hqk))
    clear hs hk
    induction ks with
    | nil => simp
    | cons k ks ih =>
      rw [List.flatMap_cons, List.nodup_append] at hnd
      rw [List.map_cons, List.nodup_cons]
      refine ⟨fun hm => ?_, ih hnd.2.1 fun q hq => hmem q (by simp [hq])⟩
      obtain ⟨q, hq, e⟩ := List.mem_map.1 hm
      exact hnd.2.2 _ (hmem k (by simp)) _ (List.mem_flatMap.2 ⟨q, hq, hmem q (by simp [hq])⟩) e.symm
end Go.Proofs.YtcbmbhghmfehpaaGreat
namespace Go.Proofs.YtcbmbhghmfehpaaGreat
theorem innK_nodup (l : List Grp) (all : Nat) : ∀ k, (innK l all k).Nodup
  | 0 => List.nodup_nil
  | k + 1 => by
    have ih := innK_nodup l all k
    unfold innK
    split
    · rename_i hc
      rw [List.nodup_append]
      refine ⟨ih, by simp, fun a ha b hb e => ?_⟩
      obtain rfl : b = ofS (gg l k).src := by simpa using hb
      subst e; exact hc.2.2 ha
    · exact ih
/-- What groups have that Tree does not refuse. -/
structure ShOk (names : List ByteArray) (l : List Grp) : Prop where
  pos : 0 < names.length
  le : names.length ≤ 32
  nm : ∀ k, k < names.length → namedB (gs names k).data.toList = true
  nd : ∀ j k, j < k → k < names.length → gs names k ≠ gs names j
  gc : gcErr l = 0
  far : ∀ k, k < l.length → ∀ x ∈ (gg l k).src, x < names.length
  cf : ∀ i k, i < k → k < l.length → confB (ofS (gg l i).src) (ofS (gg l k).src) = false
section
variable {names : List ByteArray} {l : List Grp}
theorem ShOk.small (h : ShOk names l) {k : Nat} (hk : k < l.length) : Small (gg l k).src := (srcOk_small ((gcErr_zero h.gc).2 k hk).2.2.2).1
theorem ShOk.bits (h : ShOk names l) {k : Nat} (hk : k < l.length) {i : Nat} : (ofS (gg l k).src).testBit i = true ↔ (i : Int) ∈ (gg l k).src := testBit_ofS (h.small hk) i
theorem two_bits {n x a b : Nat} (hab : a ≠ b) (ha : a ∈ bitsN n x) (hb : b ∈ bitsN n x) : 2 ≤ (bitsN n x).length := by
  have h1 : [a, b].Nodup := by simp [hab]
  have h2 : [a, b] ⊆ bitsN n x := fun y hy => by
    rcases List.mem_cons.1 hy with e | hy
    · rw [e]; exact ha
    · have e : y = b := by simpa using hy
      rw [e]; exact hb
  have := h1.length_le_of_subset h2
  simpa using this
theorem conf_cases {a b : Nat} (h : confB a b = false) : withinB a b = true ∨ withinB b a = true ∨ a &&& b = 0 := by
  unfold confB at h
  by_cases e : a &&& b = 0
  · exact .inr (.inr e)
  · cases h1 : withinB a b
    · cases h2 : withinB b a
      · rw [h1, h2] at h; simp [e] at h
      · exact .inr (.inl rfl)
    · exact .inl rfl
theorem ShOk.lam (h : ShOk names l) : Lam (innL l (allN names.length)) names.length := by
  refine ⟨fun y hy => ?_, fun y hy i hi => ?_, fun y hy => ?_, fun y hy z hz => ?_, innK_nodup _ _ _⟩
  · obtain ⟨j, hj, rfl, _⟩ := innK_mem hy
    exact ofS_u64 (h.small hj)
  · obtain ⟨j, hj, rfl, _⟩ := innK_mem hy
    have := h.far j hj _ ((h.bits hj).1 hi); omega
  · obtain ⟨j, hj, rfl, h1, _⟩ := innK_mem hy
    obtain ⟨hs, _, hm⟩ := srcOk_small ((gcErr_zero h.gc).2 j hj).2.2.2
    obtain ⟨a, ha, _⟩ := small_mem hs (gi_mem (l := (gg l j).src) (k := 0) (by omega))
    obtain ⟨b, hb, _⟩ := small_mem hs (gi_mem (l := (gg l j).src) (k := 1) h1)
    have h2 := hm 1 (by omega) h1
    have hma : (a : Int) ∈ (gg l j).src := by rw [← ha]; exact gi_mem (by omega)
    have hmb : (b : Int) ∈ (gg l j).src := by rw [← hb]; exact gi_mem h1
    refine two_bits (a := a) (b := b) (by
      have e : (1 : Nat) - 1 = 0 := rfl
      rw [e, ha, hb] at h2; omega) (mem_bitsN.2 ⟨?_, (h.bits hj).2 hma⟩) (mem_bitsN.2 ⟨?_, (h.bits hj).2 hmb⟩)
    · have := h.far j hj _ hma; omega
    · have := h.far j hj _ hmb; omega
  · obtain ⟨j, hj, rfl, _⟩ := innK_mem hy
    obtain ⟨k, hk, rfl, _⟩ := innK_mem hz
    rcases Nat.lt_trichotomy j k with e | e | e
    · exact conf_cases (h.cf j k e hk)
    · subst e
      exact .inl ((withinB_iff (ofS_u64 (h.small hj)) (ofS_u64 (h.small hj))).2 fun i hi => hi)
    · rcases conf_cases (h.cf k j e hj) with q | q | q
      · exact .inr (.inl q)
      · exact .inl q
      · exact .inr (.inr (by rw [Nat.and_comm]; exact q))
theorem range_gs (names : List ByteArray) : (List.range names.length).map (gs names) = names := by
  refine List.ext_getElem (by simp) fun i h1 h2 => ?_
  simp [gs, h2]
end
end Go.Proofs.YtcbmbhghmfehpaaGreat
