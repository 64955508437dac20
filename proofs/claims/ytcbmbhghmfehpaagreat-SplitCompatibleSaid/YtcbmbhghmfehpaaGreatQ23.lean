/- The contract of phylotree.made. The contract of phylotree.Restrict. SharederrorClades, plain: the groups of the nodes have no conflict; their tree is the tree without nodes that have one child. The walk of phylotree.Restrict. The walk of phylotree.Reroot. The turns of Reroot in memory. Check, for names of any size. SharederrorClades, plain: Restrict keeps the whole tree, Consistent finds every group. SharederrorClades: what its loops keep in memory. The contract of phylotree.Reroot. Rerooting twice, plain. The root of a rerooted tree, plain. The last common ancestor of two nodes, plain. What Parse answers. The example of chapter 31, plain: what its functions answer. The helpers of the statements on layer 31: below, find, names, example. strings.IndexAny: laid Parse: what its loop keeps in memory. -/
import Derived.Test.YtcbmbhghmfehpaaGreatQ22
import Derived.Test.YtcbmbhghmfehpaaGreatQ19
import Derived.Test.YtcbmbhghmfehpaaGreatQ15
import Derived.Test.YtcbmbhghmfehpaaGreatQ20
import Derived.Test.YtcbmbhghmfehpaaGreatQ2
import Derived.Test.YtcbmbhghmfehpaaGreatQ16
import Derived.Test.YtcbmbhghmfehpaaGreatQ3
import Derived.Test.YtcbmbhghmfehpaaGreatQ4
import Derived.Shelf.SlGeneric
import Derived.Shelf.Strings.IndexAnyAll
import Derived.Ground.NamesProg
import Derived.Ground.Names2Prog
import Derived.Test.YtcbmbhghmfehpaaGreatProg
import Derived.Test.YtcbmbhghmfehpaaGreatQ11
namespace Go.Proofs.YtcbmbhghmfehpaaGreat
open Go.RowKit Go.Deep
theorem FUp.far {n base : Nat} {A : Nat → Nat} {kv : Nat → Value} {F : Frs} {w a b : World} (h : FUp n A kv a b) (hF : FAt base n A kv F w) {B : Nat} (hB : w.heap.size ≤ B) (hl : B < a.heap.size) : b.heap[B]? = a.heap[B]? :=
  h.block B hl (fun i hi e => by have := hF.lt hi; omega) (fun i hi e => by have := (hF.ownlt hi e).2; omega)
end Go.Proofs.YtcbmbhghmfehpaaGreat
namespace Go.Proofs.YtcbmbhghmfehpaaGreat
open Go.RowKit Go.Deep
end Go.Proofs.YtcbmbhghmfehpaaGreat
namespace Go.Proofs.YtcbmbhghmfehpaaGreat
section
variable {t : Tre}
end
section
variable {t : Tre}
end
end Go.Proofs.YtcbmbhghmfehpaaGreat
namespace Go.Proofs.YtcbmbhghmfehpaaGreat
open Go.RowKit Go.Deep
end Go.Proofs.YtcbmbhghmfehpaaGreat
namespace Go.Proofs.YtcbmbhghmfehpaaGreat
open Go.RowKit Go.Deep
end Go.Proofs.YtcbmbhghmfehpaaGreat
namespace Go.Proofs.YtcbmbhghmfehpaaGreat
open Go.RowKit Go.Deep
/-- The forest under way, and the box that holds the number of the node behind. -/
structure TurnAt (g n : Nat) (A : Nat → Nat) (kv : Nat → Value) (F : Frs) (w3 wr : World) (fb : Nat) (f : Int) : Prop where
  fr : FAt (g + 1) n A kv F wr
  box : wr.heap[fb]? = some (.cells #[.int .i64 f] 3 (0, 0))
  lo : g < fb
  farA : ∀ j, j < n → A j ≠ fb
  farK : ∀ j, j < n → (kv j).ownBlock ≠ some fb
  up : Below (g + 1) w3 wr
section
variable {g n fb : Nat} {A : Nat → Nat} {kv : Nat → Value} {F : Frs} {w3 wr w' : World} {f : Int}
theorem TurnAt.fbl (h : TurnAt g n A kv F w3 wr fb f) : fb < wr.heap.size := (Array.getElem?_eq_some_iff.1 h.box).1
theorem TurnAt.cell (h : TurnAt g n A kv F w3 wr fb f) : wr.cell? ⟨fb, 0, none⟩ = some (.int .i64 f) := by simp [World.cell?, h.box]
theorem TurnAt.size (h : TurnAt g n A kv F w3 wr fb f) : g + 1 ≤ wr.heap.size := by have := h.lo; have := h.fbl; omega
/-- What DeleteFunc leaves. -/
theorem TurnAt.grown (h : TurnAt g n A kv F w3 wr fb f) {x : Nat} (hx : x < n) {row : Option Nat} (hr : row = (kv x).ownBlock) (hw : wr.grownBy w' row) :
    w'.heap[fb]? = some (.cells #[.int .i64 f] 3 (0, 0)) ∧ (∀ j, j < n → w'.heap[A j]? = wr.heap[A j]?) ∧ Below (g + 1) w3 w' := by
  subst hr
  exact ⟨by rw [hw.block fb h.fbl fun e => h.farK x hx e.symm]; exact h.box, fun j hj => hw.block _ (h.fr.lt hj) fun e => h.fr.apart x j hx hj e.symm, h.up.trans ((h.fr.own x hx).grown_below hw h.size)⟩
theorem TurnAt.store (h : TurnAt g n A kv F w3 wr fb f) {x : Nat} (hx : x < n) {row : Option Nat} (hr : row = (kv x).ownBlock) (hw : wr.grownBy w' row) :
    w'.cell? ⟨A x, 1, none⟩ = some (kv x) ∧ w'.frozen? ⟨A x, 1, none⟩ = false := by
  have h1 := (h.grown hx hr hw).2.1 x hx
  constructor
  · simp only [World.cell?, h1]; exact h.fr.kidv hx
  · simp only [World.frozen?, h1]; exact h.fr.thaw hx 1
theorem TurnAt.push (h : TurnAt g n A kv F w3 wr fb f) {k c : Nat} (hk : k < n) (hc : c < n) {b m cap : Nat} (hv : Owns (g + 1) 145 w' (.slice (some ⟨b, 0, none⟩) m cap) ((F.kids k).map (nptr A) ++ [nptr A c])) (hg : wr.grownBy w' (kv k).ownBlock)
    (hb : (kv k).ownBlock = some b ∨ wr.heap.size ≤ b) : TurnAt g n A (upd kv k (.slice (some ⟨b, 0, none⟩) m cap)) { F with kids := upd F.kids k (F.kids k ++ [c]) } w3 (w'.setCell ⟨A k, 1, none⟩ (.slice (some ⟨b, 0, none⟩) m cap)) fb f := by
  obtain ⟨h1, h2, h3⟩ := h.grown hk rfl hg
  refine ⟨h.fr.push hk hc (by rw [List.map_append]; exact hv) hg (fun b2 hb2 => by cases hb2; exact hb), ?_, h.lo, h.farA, fun j hj => ?_, h3.setCell (p := ⟨A k, 1, none⟩) (h.fr.lo k hk) _⟩
  · rw [blk_setCell_other _ _ _ _ (fun e => h.farA k hk e.symm)]; exact h1
  · by_cases e : j = k
    · subst e; rw [upd_same]
      intro e2
      have e2 : b = fb := by cases e2; rfl
      rcases hb with h4 | h4
      · exact h.farK j hj (by rw [h4, e2])
      · have := h.fbl; omega
    · rw [upd_ne _ _ e]; exact h.farK j hj
theorem TurnAt.drew (h : TurnAt g n A kv F w3 wr fb f) : TurnAt g n A kv F w3 wr.drew fb f :=
  ⟨h.fr.up (Up.drewN wr 1), h.box, h.lo, h.farA, h.farK, h.up.trans ((Up.drewN wr 1 : Up wr wr.drew).mono h.size)⟩
theorem TurnAt.congr (h : TurnAt g n A kv F w3 wr fb f) {G : Frs} (e : ∀ j, j < n → G.nm j = F.nm j ∧ G.old j = F.old j ∧ G.kids j = F.kids j) : TurnAt g n A kv G w3 wr fb f :=
  ⟨h.fr.congr2 e, h.box, h.lo, h.farA, h.farK, h.up⟩
end
end Go.Proofs.YtcbmbhghmfehpaaGreat
namespace Go.Proofs.YtcbmbhghmfehpaaGreat
open Go.RowKit Go.Deep
end Go.Proofs.YtcbmbhghmfehpaaGreat
namespace Go.Proofs.YtcbmbhghmfehpaaGreat
theorem leavesL_asc (ns : List ByteArray) : (leavesL ns).Pairwise (· < ·) := by
  unfold leavesL
  rw [List.pairwise_map]
  exact (List.Pairwise.filter _ List.pairwise_lt_range).imp fun h => Int.ofNat_lt.2 h
section
variable {t : Tre}
end
end Go.Proofs.YtcbmbhghmfehpaaGreat
namespace Go.Proofs.YtcbmbhghmfehpaaGreat
open Go.RowKit Go.Deep
section
variable {P : Program} {ops : Array Oper} {rest : List Oper} {o : Oper} {a : Act} {Q : Exit → Act → World → Prop}
/-- 'out = append(out, u)', the world's size said. -/
theorem wpList_appGM (W : World) (hgd : o.guard = none) (s x : Operand) (t : TypeId) (ho : o.op = .call { callee := .builtin .append, args := #[s, x], argTypes := #[t, t] })
    (base : Nat) (e : TypeId) (z : Value) (bytes : Nat) (ht : P.underlying t = some (.slice e)) (hinfo : (P.info? e).map (fun i => (i.zero, i.size, i.bytes)) = some (some z, 1, bytes))
    (hz1 : z.cells.size = 1) (hb8 : bytes ≤ 64) {v : Value} {vs : List Value} (hown : Owns base e W v vs) (hs : a.eval s = v) (u : Value) (m : Nat) (hm : W.heap.size = m)
    (hx : a.eval x = .slice (some ⟨m, 0, none⟩) 1 1) (h1 : u.oneCell' = true) (k : Nat) (hvn : vs.length = k) (hn : k ≤ 1000000) (hbase : base ≤ W.heap.size)
    (h : ∀ g cap w', Owns base e w' (.slice (some ⟨g, 0, none⟩) (k + 1) cap) (vs ++ [u]) → W.grownBy w' v.ownBlock → (v.ownBlock = some g ∨ W.heap.size ≤ g) → wpList P ops Q rest (a.put o.dst (.slice (some ⟨g, 0, none⟩) (k + 1) cap)) w') :
    wpList P ops Q (o :: rest) a (W.alloc (.cells #[u] e)) := by
  subst hm
  exact wpList_appG W hgd s x t ho base e z bytes ht hinfo hz1 hb8 hown hs u hx h1 k hvn hn hbase h
end
/-- The tree under way: its parents given, its names grow in its cell. -/
structure ClW (w2 wr : World) (tb : Nat) (pv nv : Value) (xs : List ByteArray) : Prop where
  box : wr.heap[tb]? = some (Obj.cells #[pv, nv] 45 (0, 0))
  own : Owns (tb + 1) 9 wr nv (xs.map Value.string)
  up : Up w2 wr
  lo : tb = w2.heap.size ∧ tb + 1 ≤ wr.heap.size
section
variable {w2 wr wx w' : World} {tb : Nat} {pv nv v : Value} {xs : List ByteArray}
theorem ClW.start (w2 : World) (pv : Value) : ClW w2 (w2.alloc (.cells #[pv, .slice none 0 0] 45)) w2.heap.size pv (.slice none 0 0) [] :=
  ⟨blk_alloc_new _ _, Owns.nil _ _ _, Up.alloc _ _, rfl, by rw [World.size_alloc]; exact Nat.le_refl _⟩
theorem ClW.upw (h : ClW w2 wr tb pv nv xs) (hu : Up wr wx) : ClW w2 wx tb pv nv xs :=
  ⟨(Below.block hu tb (by have := h.lo; omega)).trans h.box, h.own.same2 fun b hb => Below.block hu b (ownBlock_lt h.own hb).2, h.up.trans hu, h.lo.1, Nat.le_trans h.lo.2 hu.size⟩
theorem ClW.cells (h : ClW w2 wr tb pv nv xs) : wr.cell? ⟨tb, 0, none⟩ = some pv ∧ wr.cell? ⟨tb, 1, none⟩ = some nv ∧ wr.frozen? ⟨tb, 0, none⟩ = false ∧ wr.frozen? ⟨tb, 1, none⟩ = false := by
  refine ⟨?_, ?_, ?_, ?_⟩ <;> simp [World.cell?, World.frozen?, h.box]
theorem ClW.grown (h : ClW w2 wr tb pv nv xs) (hg : wr.grownBy w' nv.ownBlock) : w'.heap[tb]? = some (Obj.cells #[pv, nv] 45 (0, 0)) :=
  (hg.block tb (by have := h.lo; omega) fun e => by have := (ownBlock_lt h.own e.symm).1; omega).trans h.box
theorem ClW.push {s : ByteArray} (h : ClW w2 wr tb pv nv xs) (ho : Owns (tb + 1) 9 w' v (xs.map Value.string ++ [.string s])) (hg : wr.grownBy w' nv.ownBlock) :
    (w'.cell? ⟨tb, 1, none⟩ = some nv ∧ w'.frozen? ⟨tb, 1, none⟩ = false) ∧ ClW w2 (w'.setCell ⟨tb, 1, none⟩ v) tb pv v (xs ++ [s]) := by
  have hb := h.grown hg
  refine ⟨⟨by simp [World.cell?, hb], by simp [World.frozen?, hb]⟩, ?_, ?_, ?_, h.lo.1, by rw [World.size_setCell]; exact Nat.le_trans h.lo.2 hg.size⟩
  · simp [World.setCell, Array.getElem?_modify, hb]
  · rw [List.map_append]
    exact ho.same2 fun b hb2 => blk_setCell_other _ _ _ _ (show b ≠ tb by have := (ownBlock_lt ho hb2).1; omega)
  · refine ⟨hg.os.trans h.up.os, hg.tape.trans h.up.tape, hg.output.trans h.up.output, by rw [World.size_setCell]; exact Nat.le_trans h.up.size hg.size, fun b hb2 => ?_⟩
    rw [blk_setCell_other _ _ _ _ (show b ≠ tb by have := h.lo.1; omega)]
    refine (hg.block b (Nat.lt_of_lt_of_le hb2 h.up.size) fun e => ?_).trans (Below.block h.up b hb2)
    have := (ownBlock_lt h.own e.symm).1
    have := h.lo.1
    omega
end
/-- The groups and the numbers of the leaves, two lists that grow. -/
structure ClG (w3 wr : World) (d a : Value) (gs : List Grp) (svs : List Value) (xs : List Int) : Prop where
  row : wr.ownsRow w3.heap.size 37 3 d gs.length (cellsG gs svs)
  len : svs.length = gs.length
  src : ∀ i, i < gs.length → IntsAt (fun b => some b ≠ d.ownBlock ∧ some b ≠ a.ownBlock) wr (svs.getD i undef) (gg gs i).src
  all : Owns w3.heap.size 3 wr a (xs.map (Value.int .i64))
  apart : ∀ b, d.ownBlock = some b → a.ownBlock ≠ some b
  up : Up w3 wr
section
variable {w3 wr wx w' : World} {d a : Value} {gs : List Grp} {svs : List Value} {xs : List Int}
theorem ClG.start (w3 : World) : ClG w3 w3 (.slice none 0 0) (.slice none 0 0) [] [] [] :=
  ⟨World.ownsRow_nil _ _ _ _, rfl, fun _ h => absurd h (Nat.not_lt_zero _), Owns.nil _ _ _, fun _ h => (by cases h), Up.refl _⟩
theorem ClG.dlt (h : ClG w3 wr d a gs svs xs) {b : Nat} (hb : d.ownBlock = some b) : w3.heap.size ≤ b ∧ b < wr.heap.size := World.ownsRow.lt h.row b hb
theorem ClG.alt (h : ClG w3 wr d a gs svs xs) {b : Nat} (hb : a.ownBlock = some b) : w3.heap.size ≤ b ∧ b < wr.heap.size := ownBlock_lt h.all hb
theorem ownsRow_same {base sz n : Nat} {e : TypeId} {w w' : World} {v : Value} {cs : List Value} (h : w.ownsRow base e sz v n cs) (k : ∀ b, v.ownBlock = some b → w'.heap[b]? = w.heap[b]?) : w'.ownsRow base e sz v n cs := by
  refine ⟨h.1, ?_⟩
  rcases h.2 with h0 | ⟨g, cap, cur, rfl, hg, hc, hr⟩
  · exact .inl h0
  · exact .inr ⟨g, cap, cur, rfl, hg, (k g rfl).trans hc, hr⟩
theorem ClG.upw (h : ClG w3 wr d a gs svs xs) (hu : Up wr wx) : ClG w3 wx d a gs svs xs :=
  ⟨ownsRow_same h.row fun b hb => Below.block hu b (h.dlt hb).2, h.len, fun i hi => (h.src i hi).keep (hu.kept _), h.all.same2 fun b hb => Below.block hu b (h.alt hb).2, h.apart, h.up.trans hu⟩
end
end Go.Proofs.YtcbmbhghmfehpaaGreat
namespace Go.Proofs.YtcbmbhghmfehpaaGreat
open Go.RowKit Go.Deep
end Go.Proofs.YtcbmbhghmfehpaaGreat
namespace Go.Proofs.YtcbmbhghmfehpaaGreat
theorem GoodR.sub {r s : RT} (h : GoodR r) (hs : s ∈ subR r) : GoodR s :=
  ⟨fun q hq => h.inn q (subR_trans r hs hq), fun q hq => h.lf q (subR_trans r hs hq), (leafR_sub hs).nodup h.nd⟩
/-- A leaf is a part. -/
theorem GoodR.single {r : RT} (h : GoodR r) {a : ByteArray} (ha : a ∈ leafR r) : ∃ s ∈ subR r, leafR s = [a] ∧ s = .node a [] := by
  unfold leafR at ha
  obtain ⟨h1, h2⟩ := List.mem_filter.1 ha
  rw [nsR_sub] at h1
  obtain ⟨s, hs, rfl⟩ := List.mem_map.1 h1
  have h2 : s.nm.size ≠ 0 := of_decide_eq_true h2
  have hk : s.kids = [] := by
    by_cases c : s.kids = []
    · exact c
    · exact absurd (h.inn s hs c) h2
  refine ⟨s, hs, ?_⟩
  cases s with
  | node nm ks =>
    have hk : ks = [] := hk
    have h2 : nm.size ≠ 0 := h2
    subst hk
    refine ⟨?_, rfl⟩
    exact leaf_one31 h2
theorem GoodR.meet {r s : RT} (h : GoodR r) (hs : s ∈ subR r) : ∃ x, x ∈ leafR s := by
  obtain ⟨l, hl⟩ := (h.sub hs).head
  exact ⟨firstR s, by rw [hl]; simp⟩
section
variable {r q : RT} {a b : ByteArray}
end
section
variable {t : Tre} {leaf : Nat}
end
end Go.Proofs.YtcbmbhghmfehpaaGreat
namespace Go.Proofs.YtcbmbhghmfehpaaGreat
section
variable {t : Tre} {leaf : Nat}
end
end Go.Proofs.YtcbmbhghmfehpaaGreat
namespace Go.Proofs.YtcbmbhghmfehpaaGreat
section
variable {ps : List Int}
end
end Go.Proofs.YtcbmbhghmfehpaaGreat
namespace Go.Proofs.YtcbmbhghmfehpaaGreat
def paE (s : ByteArray) : Int := match paR s.data.toList with
  | none => 3
  | some r => treeErr (flat r)
def paT (s : ByteArray) : Tre := match paR s.data.toList with
  | none => ⟨[], []⟩
  | some r => if treeErr (flat r) ≠ 0 then ⟨[], []⟩ else flat r
end Go.Proofs.YtcbmbhghmfehpaaGreat
namespace Go.Proofs.YtcbmbhghmfehpaaGreat
end Go.Proofs.YtcbmbhghmfehpaaGreat
namespace Go.Proofs.YtcbmbhghmfehpaaGreat
open Go.RowKit Go.Deep
@[go_sem high] theorem run_max0_4 (w : World) (ts : Array TypeId) (t : TypeId) (k : IntKind) : (Builtin.max_ ts t #[.int k 0, .int k 0, .int k 0, .int k 0]).run Tryz.prog w = .ok (.int k 0) w := by
  simp [Builtin.max_, Builtin.max2]
@[go_sem high] theorem run_max0_5 (w : World) (ts : Array TypeId) (t : TypeId) (k : IntKind) : (Builtin.max_ ts t #[.int k 0, .int k 0, .int k 0, .int k 0, .int k 0]).run Tryz.prog w = .ok (.int k 0) w := by
  simp [Builtin.max_, Builtin.max2]
@[go_sem high] theorem run_max0_6 (w : World) (ts : Array TypeId) (t : TypeId) (k : IntKind) : (Builtin.max_ ts t #[.int k 0, .int k 0, .int k 0, .int k 0, .int k 0, .int k 0]).run Tryz.prog w = .ok (.int k 0) w := by
  simp [Builtin.max_, Builtin.max2]
@[go_sem high] theorem run_max0_7 (w : World) (ts : Array TypeId) (t : TypeId) (k : IntKind) : (Builtin.max_ ts t #[.int k 0, .int k 0, .int k 0, .int k 0, .int k 0, .int k 0, .int k 0]).run Tryz.prog w = .ok (.int k 0) w := by
  simp [Builtin.max_, Builtin.max2]
end Go.Proofs.YtcbmbhghmfehpaaGreat
namespace Go.Proofs
open Go.Shelf
def Tryz.idxA_ren : Go.Shelf.Ren := ⟨fun | 153 => 173 | 152 => 206 | 226 => 207 | 227 => 208 | 228 => 209 | 137 => 238 | 119 => 239 | 224 => 240 | 225 => 241 | 217 => 250 | 266 => 262 | n => n, fun | 9 => 9 | 3 => 3 | 4 => 4 | 5 => 5 | 21 => 21 | 117 => 227 | 116 => 226 | 0 => 0 | 46 => 118 | 124 => 258 | n => n, fun | n => n⟩
theorem Tryz.idxA : Go.Proofs.Lays.n153 Tryz.prog Tryz.idxA_ren := {
  mixed := by kernel_rfl
  f119 := Tryz.func239.trans (congrArg some (by kernel_rfl))
  f137 := Tryz.func238.trans (congrArg some (by kernel_rfl))
  f152 := Tryz.func206.trans (congrArg some (by kernel_rfl))
  f153 := Tryz.func173.trans (congrArg some (by kernel_rfl))
  f217 := Tryz.func250.trans (congrArg some (by kernel_rfl))
  f224 := Tryz.func240.trans (congrArg some (by kernel_rfl))
  f225 := Tryz.func241.trans (congrArg some (by kernel_rfl))
  f226 := Tryz.func207.trans (congrArg some (by kernel_rfl))
  f227 := Tryz.func208.trans (congrArg some (by kernel_rfl))
  f228 := Tryz.func209.trans (congrArg some (by kernel_rfl))
  f266 := Tryz.func262.trans (congrArg some (by kernel_rfl))
  t0 := Tryz.underlying0
  a0 := Tryz.isAgg0
  z0 := Tryz.sizeOf0
  v0 := Tryz.zeroValue0
  t3 := Tryz.underlying3
  a3 := Tryz.isAgg3
  z3 := Tryz.sizeOf3
  v3 := Tryz.zeroValue3
  t4 := Tryz.underlying4
  a4 := Tryz.isAgg4
  z4 := Tryz.sizeOf4
  v4 := Tryz.zeroValue4
  t5 := Tryz.underlying5
  a5 := Tryz.isAgg5
  z5 := Tryz.sizeOf5
  v5 := Tryz.zeroValue5
  t9 := Tryz.underlying9
  a9 := Tryz.isAgg9
  z9 := Tryz.sizeOf9
  v9 := Tryz.zeroValue9
  t21 := Tryz.underlying21
  a21 := Tryz.isAgg21
  z21 := Tryz.sizeOf21
  v21 := Tryz.zeroValue21
  t46 := Tryz.underlying118
  a46 := Tryz.isAgg118
  z46 := Tryz.sizeOf118
  v46 := Tryz.zeroValue118
  t116 := Tryz.underlying226
  a116 := Tryz.isAgg226
  z116 := Tryz.sizeOf226
  t117 := Tryz.underlying227
  a117 := Tryz.isAgg227
  z117 := Tryz.sizeOf227
  v117 := Tryz.zeroValue227
  t124 := Tryz.underlying258
  a124 := Tryz.isAgg258
  z124 := Tryz.sizeOf258
  v124 := Tryz.zeroValue258 }
end Go.Proofs
namespace Go.Proofs.YtcbmbhghmfehpaaGreat
open Go.RowKit Go.Deep
/-- The machine in memory: the forest, the list of open nodes, what is still to be read. -/
structure PaM (base : Nat) (s : ByteArray) (R : Option RT) (w0 : World) (top k : Nat) (b : Bool) (ov : Value) (wr : World) (n : Nat) (A : Nat → Nat) (kv : Nat → Value) (F : Frs) (o : Nat) (os : List Nat) (Z : List RT) (st : List (List RT)) (f : Nat) : Prop where
  fr : FAt base n A kv F wr
  a0 : A 0 = top
  zf : PzF F n (o :: os) (Z :: st)
  own : Owns base 145 wr ov ((o :: os).reverse.map (nptr A))
  farA : ∀ g, ov.ownBlock = some g → ∀ j, j < n → g ≠ A j
  farK : ∀ g, ov.ownBlock = some g → ∀ j, j < n → (kv j).ownBlock ≠ some g
  last : (o :: os).getLast? = some 0
  nk : n ≤ k + 1
  ol : os.length ≤ k
  dnz : b = true → Z ≠ []
  run : pz f (s.data.toList.drop k) (Z :: st) b = R
  fuel : s.size < f + k
  up : Below base w0 wr
def PaS (base : Nat) (s : ByteArray) (R : Option RT) (w0 : World) (top k : Nat) (b : Bool) (ov : Value) (wr : World) : Prop :=
  ∃ n A kv F o os Z st f, PaM base s R w0 top k b ov wr n A kv F o os Z st f
section
variable {base : Nat} {s : ByteArray} {R : Option RT} {w0 wr w' : World} {top k n f o : Nat} {b : Bool} {ov : Value} {A : Nat → Nat} {kv : Nat → Value} {F : Frs} {os : List Nat} {Z : List RT} {st : List (List RT)}
theorem PaM.ovl (h : PaM base s R w0 top k b ov wr n A kv F o os Z st f) {g : Nat} (hg : ov.ownBlock = some g) : base ≤ g ∧ g < wr.heap.size := ownBlock_lt h.own hg
/-- The list of open nodes. -/
theorem PaM.row (h : PaM base s R w0 top k b ov wr n A kv F o os Z st f) : ∃ g cap, ov = .slice (some ⟨g, 0, none⟩) (os.length + 1) cap ∧ os.length + 1 ≤ cap ∧ wr.cell? ⟨g, os.length, none⟩ = some (.pointer (some ⟨A o, 0, none⟩)) := by
  obtain ⟨q, cap, hv, hq⟩ := h.own.form (n := os.length + 1) (by simp)
  obtain ⟨g, rfl⟩ : ∃ g, q = some ⟨g, 0, none⟩ := by
    rcases hq with rfl | h2
    · obtain ⟨_, h3 | ⟨g, _, _, h3, _⟩⟩ := h.own
      · have := h3.2; simp at this
      · rw [hv] at h3; cases h3
    · exact h2
  have ho := h.own
  rw [hv] at ho
  have hcm : os.length + 1 ≤ cap := by
    rcases ho.2 with ⟨e, _⟩ | ⟨g2, cap2, cur, e, _, _, hn, _⟩
    · cases e
    · have e3 : cap = cap2 := (Value.slice.inj e).2.2
      rw [e3]; simpa using hn
  refine ⟨g, cap, hv, hcm, (owns_cell ho ?_).1⟩
  rw [List.getElem?_map, List.reverse_cons, List.getElem?_append_right (by simp)]
  simp [nptr]
/-- A node is laid and hung below the innermost open one. -/
structure PaN (base : Nat) (w0 : World) (top : Nat) (ov : Value) (n : Nat) (A' : Nat → Nat) (kv' : Nat → Value) (G : Frs) (ol : List Nat) (W : World) : Prop where
  fr : FAt base (n + 1) A' kv' G W
  a0 : A' 0 = top
  own : Owns base 145 W ov (ol.reverse.map (nptr A'))
  farA : ∀ g, ov.ownBlock = some g → ∀ j, j < n + 1 → g ≠ A' j
  farK : ∀ g, ov.ownBlock = some g → ∀ j, j < n + 1 → (kv' j).ownBlock ≠ some g
  up : Below base w0 W
theorem PaM.node (h : PaM base s R w0 top k b ov wr n A kv F o os Z st f) (nm : ByteArray) {g m cap : Nat} (hbs : base ≤ wr.heap.size)
    (hv : Owns base 145 w' (.slice (some ⟨g, 0, none⟩) m cap) ((F.kids o).map (nptr A) ++ [.pointer (some ⟨wr.heap.size, 0, none⟩)]))
    (hg : (wr.alloc (.cells #[.string nm, .slice none 0 0, .int .i64 0] 147)).grownBy w' (kv o).ownBlock) (hr : (kv o).ownBlock = some g ∨ wr.heap.size + 1 ≤ g) :
    ∃ A' kv', A' n = wr.heap.size ∧ PaN base w0 top ov n A' kv' (addF F n o nm) (o :: os) (w'.setCell ⟨A o, 1, none⟩ (.slice (some ⟨g, 0, none⟩) m cap)) := by
  have ho := h.zf.on
  have hon : o ≠ n := by omega
  have h1 := h.fr.node_new hbs nm 0
  have hAo : upd A n wr.heap.size o = A o := upd_ne _ _ hon
  have hkvo : upd kv n (.slice none 0 0) o = kv o := upd_ne _ _ hon
  have hmap : ∀ l : List Nat, (∀ k ∈ l, k < n) → l.map (nptr (upd A n wr.heap.size)) = l.map (nptr A) := fun l hl => by
    refine List.map_congr_left fun k hk => ?_
    have := hl k hk
    unfold nptr; rw [upd_ne _ _ (by omega)]
  have hsz : (wr.alloc (.cells #[.string nm, .slice none 0 0, .int .i64 0] 147)).heap.size = wr.heap.size + 1 := World.size_alloc _ _
  have h2 := h1.push (k := o) (c := n) (v := .slice (some ⟨g, 0, none⟩) m cap) (by omega) (by omega)
    (by
      show Owns _ _ _ _ ((upd F.kids n [] o ++ [n]).map _)
      rw [upd_ne _ _ hon, List.map_append, hmap _ (h.fr.kid o ho)]
      show Owns _ _ _ _ (_ ++ [nptr (upd A n wr.heap.size) n])
      unfold nptr; rw [upd_same]; exact hv) (by rw [hkvo]; exact hg) (fun b2 hb2 => by cases hb2; rw [hkvo, hsz]; exact hr)
  rw [hAo] at h2
  have h0n : 0 < n := by omega
  have hovb : ∀ g2, ov.ownBlock = some g2 → w'.heap[g2]? = wr.heap[g2]? := fun g2 hg2 => by
    have hl := (h.ovl hg2).2
    rw [hg.block g2 (by rw [hsz]; omega) (fun e => h.farK g2 hg2 o ho e.symm)]
    exact blk_alloc_lt _ _ _ hl
  refine ⟨_, _, upd_same _ _ _, h2.congr2 fun j hj => ⟨rfl, rfl, ?_⟩, by rw [upd_ne _ _ (by omega)]; exact h.a0, ?_, fun g2 hg2 j hj => ?_, fun g2 hg2 j hj => ?_, ?_⟩
  · show upd (upd F.kids n []) o (F.kids o ++ [n]) j = upd (upd F.kids n []) o (upd F.kids n [] o ++ [n]) j
    rw [upd_ne F.kids _ hon]
  · rw [hmap _ (fun k hk => h.zf.opn k (List.mem_reverse.1 hk))]
    refine h.own.same fun g2 hg2 => ?_
    rw [blk_setCell_other _ _ _ _ (h.farA g2 hg2 o ho)]
    exact hovb g2 hg2
  · by_cases e : j = n
    · subst e; rw [upd_same]; have := (h.ovl hg2).2; omega
    · rw [upd_ne _ _ e]; exact h.farA g2 hg2 j (by omega)
  · by_cases e : j = o
    · subst e; rw [upd_same]
      intro e2
      have e2 : g = g2 := by cases e2; rfl
      rcases hr with h3 | h3
      · exact h.farK g2 hg2 j ho (by rw [h3, e2])
      · have := (h.ovl hg2).2; omega
    · rw [upd_ne _ _ e]
      by_cases e2 : j = n
      · subst e2; rw [upd_same]; intro e3; cases e3
      · rw [upd_ne _ _ e2]; exact h.farK g2 hg2 j (by omega)
  · have ha : Below base wr (wr.alloc (.cells #[.string nm, .slice none 0 0, .int .i64 0] 147)) := (Below.refl _ _).alloc hbs _
    have hb2 : Below base (wr.alloc (.cells #[.string nm, .slice none 0 0, .int .i64 0] 147)) w' := ((h.fr.own o ho).alloc _).grown_below hg (by rw [hsz]; omega)
    exact ((h.up.trans ha).trans hb2).setCell (p := ⟨A o, 1, none⟩) (h.fr.lo o ho) _
theorem PaM.store (h : PaM base s R w0 top k b ov wr n A kv F o os Z st f) {ob : Obj} (hg : (wr.alloc ob).grownBy w' (kv o).ownBlock) :
    w'.cell? ⟨A o, 1, none⟩ = some (kv o) ∧ w'.frozen? ⟨A o, 1, none⟩ = false := by
  have ho := h.zf.on
  have hlt := h.fr.lt ho
  have h1 : w'.heap[A o]? = wr.heap[A o]? := by
    rw [hg.block _ (by rw [World.size_alloc]; omega) (fun e => h.fr.apart o o ho ho e.symm)]
    exact blk_alloc_lt _ _ _ hlt
  constructor
  · simp only [World.cell?, h1]; exact h.fr.kidv ho
  · simp only [World.frozen?, h1]; exact h.fr.thaw ho 1
theorem PaM.klen (h : PaM base s R w0 top k b ov wr n A kv F o os Z st f) : ((F.kids o).map (nptr A)).length = (F.kids o).length ∧ (F.kids o).length ≤ 1000000 := by
  refine ⟨List.length_map _, ?_⟩
  have := nodup_le (h.zf.nd o h.zf.on) (fun x hx => (h.zf.kid o h.zf.on x hx).2)
  have := h.zf.big
  omega
/-- A leaf has been read. -/
theorem PaM.leaf (h : PaM base s R w0 top k b ov wr n A kv F o os Z st f) (hb : n < 2000) {W : World} {A' : Nat → Nat} {kv' : Nat → Value} {nm : ByteArray} {k' f' : Nat} (hk : k + 1 ≤ k') (hN : PaN base w0 top ov n A' kv' (addF F n o nm) (o :: os) W)
    (hrun : pz f' (s.data.toList.drop k') ((Z ++ [.node nm []]) :: st) true = R) (hf : s.size < f' + k') : PaS base s R w0 top k' true ov W :=
  ⟨_, _, _, _, _, _, _, _, _, ⟨hN.fr, hN.a0, h.zf.leaf nm hb, hN.own, hN.farA, hN.farK, h.last, (by have := h.nk; omega), (by have := h.ol; omega), (fun _ => by simp), hrun, hf, hN.up⟩⟩
/-- A node has been opened. -/
theorem PaM.opened (h : PaM base s R w0 top k b ov wr n A kv F o os Z st f) (hb : n < 2000) {W : World} {A' : Nat → Nat} {kv' : Nat → Value} {f' g m cap : Nat} (hN : PaN base w0 top ov n A' kv' (addF F n o ByteArray.empty) (o :: os) W) (hbs : base ≤ W.heap.size)
    (hv : Owns base 145 w' (.slice (some ⟨g, 0, none⟩) m cap) ((o :: os).reverse.map (nptr A') ++ [nptr A' n])) (hg : W.grownBy w' ov.ownBlock) (hr : ov.ownBlock = some g ∨ W.heap.size ≤ g)
    (hrun : pz f' (s.data.toList.drop (k + 1)) ([] :: Z :: st) false = R) (hf : s.size < f' + (k + 1)) : PaS base s R w0 top (k + 1) false (.slice (some ⟨g, 0, none⟩) m cap) w' := by
  have hold : ∀ b2, b2 < W.heap.size → (∀ g2, ov.ownBlock = some g2 → b2 ≠ g2) → w'.heap[b2]? = W.heap[b2]? := fun b2 hb2 hne => hg.block b2 hb2 fun e => hne b2 e.symm rfl
  refine ⟨_, _, _, _, _, _, _, _, _, ⟨hN.fr.same (fun i hi => hold _ (hN.fr.lt hi) fun g2 hg2 e => hN.farA g2 hg2 i hi e.symm) (fun i b2 hi hb2 => hold _ (hN.fr.ownlt hi hb2).2 fun g2 hg2 e => hN.farK g2 hg2 i hi (by rw [hb2, e])), hN.a0, h.zf.open hb, ?_, fun g2 hg2 j hj => ?_, fun g2 hg2 j hj => ?_, ?_, (by have := h.nk; omega), (by have := h.ol; simp; omega), (fun e => by cases e), hrun, hf, hN.up.trans (hN.own.grown_below hg hbs)⟩⟩
  · rw [List.reverse_cons, List.map_append]; exact hv
  · have hg2 : some g = some g2 := hg2
    injection hg2 with hg2; subst hg2
    rcases hr with h1 | h1
    · exact hN.farA g h1 j hj
    · have := hN.fr.lt hj; omega
  · have hg2 : some g = some g2 := hg2
    injection hg2 with hg2; subst hg2
    intro e
    rcases hr with h1 | h1
    · exact hN.farK g h1 j hj e
    · have := (hN.fr.ownlt hj e).2; omega
  · rw [List.getLast?_cons_cons]; exact h.last
/-- A node has been closed. -/
theorem PaM.popped {q : Nat} {Y : List RT} {st2 : List (List RT)} {os2 : List Nat} (h : PaM base s R w0 top k b ov wr n A kv F o (q :: os2) Z (Y :: st2) f) {g cap f' : Nat} (hov : ov = .slice (some ⟨g, 0, none⟩) (os2.length + 2) cap)
    (hrun : pz f' (s.data.toList.drop (k + 1)) ((Y ++ [.node ByteArray.empty Z]) :: st2) true = R) (hf : s.size < f' + (k + 1)) : PaS base s R w0 top (k + 1) true (.slice (some ⟨g, 0, none⟩) (os2.length + 1) cap) wr := by
  subst hov
  refine ⟨_, _, _, _, _, _, _, _, _, ⟨h.fr, h.a0, h.zf.pop, ?_, h.farA, h.farK, ?_, (by have := h.nk; omega), (by have := h.ol; simp at this; omega), (fun _ => by simp), hrun, hf, h.up⟩⟩
  · have h1 := owns_take h.own (m := os2.length + 1) (by omega)
    have e : ((o :: q :: os2).reverse.map (nptr A)).take (os2.length + 1) = (q :: os2).reverse.map (nptr A) := by
      rw [List.reverse_cons, List.map_append, List.take_append_of_le_length (by simp)]
      rw [List.take_of_length_le (by simp)]
    rw [e] at h1; exact h1
  · have := h.last
    rw [List.getLast?_cons_cons] at this; exact this
theorem PaM.comma (h : PaM base s R w0 top k b ov wr n A kv F o os Z st f) {f' : Nat} (hrun : pz f' (s.data.toList.drop (k + 1)) (Z :: st) false = R) (hf : s.size < f' + (k + 1)) : PaS base s R w0 top (k + 1) false ov wr :=
  ⟨_, _, _, _, _, _, _, _, _, ⟨h.fr, h.a0, h.zf, h.own, h.farA, h.farK, h.last, (by have := h.nk; omega), (by have := h.ol; omega), (fun e => by cases e), hrun, hf, h.up⟩⟩
theorem PaM.drew (h : PaM base s R w0 top k b ov wr n A kv F o os Z st f) : PaM base s R w0 top k b ov wr.drew n A kv F o os Z st f :=
  ⟨h.fr.up (Up.drewN wr 1), h.a0, h.zf, h.own.same fun _ _ => rfl, h.farA, h.farK, h.last, h.nk, h.ol, h.dnz, h.run, h.fuel, h.up.drew⟩
theorem PaM.keepUp (h : PaM base s R w0 top k b ov wr n A kv F o os Z st f) (hu : Up wr w') : PaM base s R w0 top k b ov w' n A kv F o os Z st f :=
  ⟨h.fr.up hu, h.a0, h.zf, h.own.same fun _ hg => Below.block hu _ (h.ovl hg).2, h.farA, h.farK, h.last, h.nk, h.ol, h.dnz, h.run, h.fuel, h.up.trans (hu.mono (Nat.le_trans (h.fr.lo 0 (by have := h.zf.on; omega)) (Nat.le_of_lt (h.fr.lt (i := 0) (by have := h.zf.on; omega)))))⟩
/-- The machine's step, at a character. -/
theorem PaM.step (h : PaM base s R w0 top k b ov wr n A kv F o os Z st f) (hk : k < s.size) : ∃ f' ch, f = f' + 1 ∧ s.size < f' + (k + 1) ∧ s.data.toList.drop k = ch :: s.data.toList.drop (k + 1) ∧ s[k] = ch := by
  have hf := h.fuel
  refine ⟨f - 1, s[k], by omega, by omega, ?_, rfl⟩
  have hl : k < s.data.toList.length := by rw [Array.length_toList]; exact hk
  rw [List.drop_eq_getElem_cons hl]
  congr 1
end
theorem pa_start (w1 : World) (s : ByteArray) : PaS w1.heap.size s (paR s.data.toList) w1 w1.heap.size 0 false (.slice (some ⟨w1.heap.size + 1, 0, none⟩) 1 1)
    ((w1.alloc (.cells #[.string ⟨#[]⟩, .slice none 0 0, .int .i64 0] 147)).alloc (.cells #[.pointer (some ⟨w1.heap.size, 0, none⟩)] 145)) := by
  have hs1 : (w1.alloc (.cells #[.string ⟨#[]⟩, .slice none 0 0, .int .i64 0] 147)).heap.size = w1.heap.size + 1 := World.size_alloc _ _
  have h1 := ((FAt.empty w1.heap.size (fun _ => w1.heap.size) (fun _ => .slice none 0 0) ⟨fun _ => ⟨#[]⟩, fun _ => 0, fun _ => []⟩ w1).node_new (Nat.le_refl _) ⟨#[]⟩ 0).up (Up.alloc _ (.cells #[.pointer (some ⟨w1.heap.size, 0, none⟩)] 145))
  have h0 : ∀ j, j < 1 → j = 0 := fun j hj => by omega
  have hA : ∀ j, j < 0 + 1 → upd (fun _ => w1.heap.size) 0 w1.heap.size j = w1.heap.size := fun j hj => by rw [h0 j hj, upd_same]
  have hown : Owns w1.heap.size 145 ((w1.alloc (.cells #[.string ⟨#[]⟩, .slice none 0 0, .int .i64 0] 147)).alloc (.cells #[.pointer (some ⟨w1.heap.size, 0, none⟩)] 145)) (.slice (some ⟨w1.heap.size + 1, 0, none⟩) 1 1) (([0] : List Nat).reverse.map (nptr (upd (fun _ => w1.heap.size) 0 w1.heap.size))) := by
    have hb := blk_alloc_new (w1.alloc (.cells #[.string ⟨#[]⟩, .slice none 0 0, .int .i64 0] 147)) (.cells #[.pointer (some ⟨w1.heap.size, 0, none⟩)] 145)
    rw [hs1] at hb
    exact ⟨rfl, .inr ⟨w1.heap.size + 1, 1, _, rfl, by omega, hb, ⟨by simp, by unfold maxLen; omega, rfl, by simp [nptr, upd_same]⟩⟩⟩
  refine ⟨0 + 1, _, _, _, 0, [], [], [], s.data.toList.length + 1, ⟨h1, upd_same _ _ _, ?_, hown, fun g hg j hj => ?_, fun g hg j hj => ?_, rfl, Nat.le_refl _, Nat.zero_le _, (fun e => by cases e), rfl, ?_, ((Up.alloc w1 _).trans (Up.alloc _ _))⟩⟩
  · refine ⟨by omega, fun i hi k hk => ?_, fun p q k hp hq _ _ => by omega, fun i hi => ?_, ⟨?_, ⟨[], ?_, rfl⟩, trivial⟩, fun o ho => by simp at ho; omega, by simp⟩
    · rw [h0 i hi] at hk
      have hk : k ∈ upd (fun _ => ([] : List Nat)) 0 [] 0 := hk
      rw [upd_same] at hk; cases hk
    · rw [h0 i hi]
      show (upd (fun _ => ([] : List Nat)) 0 [] 0).Nodup
      rw [upd_same]; exact List.nodup_nil
    · show (upd (fun _ => (⟨#[]⟩ : ByteArray)) 0 ⟨#[]⟩ 0).size = 0
      rw [upd_same]; rfl
    · show upd (fun _ => ([] : List Nat)) 0 [] 0 = _
      rw [upd_same]; rfl
  · have hg : some (w1.heap.size + 1) = some g := hg
    injection hg with hg
    rw [hA j hj]; omega
  · rw [h0 j hj, upd_same]; intro e; cases e
  · rw [Array.length_toList]
    show s.data.size < _
    omega
end Go.Proofs.YtcbmbhghmfehpaaGreat
