/- The helpers of the statements on layer 31: below, find, names, example. strings.IndexAny: laid Parse: what its loop keeps in memory. The contract of phylotree.Parse. strings.IndexRune: a rune above ASCII is not among the four signs. strings.IndexAny at the four signs, for strings of any bytes. The example of chapter 31: awake. The contracts of layer 35's reference's beyond and GreatNames, of layer 31's reference's Great. The contract of layer 31's reference's Great. The statements' bounds on layer 31's trees. The contract of phylotree.Same. PhylotreeTexts, plain. PhylotreeRerooted, plain. Plain: unit costs. Plain laws for ParsimonyFitch: the cost as a sum over edges, different states counted, unit costs. Plain laws for ParsimonyFitch: with unit costs the score lies between the different known states and the known leaves, and does not depend on how many states there may be. -/
import Derived.Test.YtcaialhoclodjaaQ27
import Derived.Test.YtcaialhoclodjaaQ2
import Derived.Test.YtcaialhoclodjaaQ6
import Derived.Test.YtcaialhoclodjaaQ24
import Derived.Test.YtcaialhoclodjaaQ7
import Derived.Test.YtcaialhoclodjaaQ17
import Derived.Test.YtcaialhoclodjaaQ20
import Derived.Shelf.SlGeneric
import Derived.Shelf.Strings.IndexAnyAll
import Derived.Ground.NamesProg
import Derived.Ground.Names2Prog
import Derived.Test.YtcaialhoclodjaaProg
import Derived.Test.YtcaialhoclodjaaQ23
import Derived.Test.YtcaialhoclodjaaQ26
import Derived.Test.YtcaialhoclodjaaQ13
import Derived.Test.YtcaialhoclodjaaQ19
import Derived.Test.YtcaialhoclodjaaQ25
import Derived.Test.YtcaialhoclodjaaQ8
import Derived.Test.YtcaialhoclodjaaQ11
import Derived.Laws.RangeAny
import Derived.WalkMore
import Derived.Shelf.Small.Utf8
import Derived.Shelf.Small.Strs
import Derived.Lib.OthersKept
import Derived.Deep.RegionHeld3
import Derived.Test.YtcaialhoclodjaaQ14
import Derived.Test.YtcaialhoclodjaaQ1
namespace Go.Proofs.Ytcaialhoclodjaa
open Go.RowKit Go.Deep
@[go_sem high] theorem run_max0_4 (w : World) (ts : Array TypeId) (t : TypeId) (k : IntKind) : (Builtin.max_ ts t #[.int k 0, .int k 0, .int k 0, .int k 0]).run Try.prog w = .ok (.int k 0) w := by
  simp [Builtin.max_, Builtin.max2]
@[go_sem high] theorem run_max0_5 (w : World) (ts : Array TypeId) (t : TypeId) (k : IntKind) : (Builtin.max_ ts t #[.int k 0, .int k 0, .int k 0, .int k 0, .int k 0]).run Try.prog w = .ok (.int k 0) w := by
  simp [Builtin.max_, Builtin.max2]
@[go_sem high] theorem run_max0_6 (w : World) (ts : Array TypeId) (t : TypeId) (k : IntKind) : (Builtin.max_ ts t #[.int k 0, .int k 0, .int k 0, .int k 0, .int k 0, .int k 0]).run Try.prog w = .ok (.int k 0) w := by
  simp [Builtin.max_, Builtin.max2]
@[go_sem high] theorem run_max0_7 (w : World) (ts : Array TypeId) (t : TypeId) (k : IntKind) : (Builtin.max_ ts t #[.int k 0, .int k 0, .int k 0, .int k 0, .int k 0, .int k 0, .int k 0]).run Try.prog w = .ok (.int k 0) w := by
  simp [Builtin.max_, Builtin.max2]
end Go.Proofs.Ytcaialhoclodjaa
namespace Go.Proofs
open Go.Shelf
end Go.Proofs
namespace Go.Proofs.Ytcaialhoclodjaa
open Go.RowKit Go.Deep
/-- The machine in memory: the forest, the list of open nodes, what is still to be read. -/
structure PaM (base : Nat) (s : ByteArray) (R : Option RT) (w0 : World) (top k : Nat) (b : Bool) (ov : Value) (wr : World) (n : Nat) (A : Nat → Nat) (kv : Nat → Value) (F : Frs) (o : Nat) (os : List Nat) (Z : List RT) (st : List (List RT)) (f : Nat) : Prop where
  fr : FAt base n A kv F wr
  a0 : A 0 = top
  zf : PzF F n (o :: os) (Z :: st)
  own : Owns base 66 wr ov ((o :: os).reverse.map (nptr A))
  farA : ∀ g, ov.ownBlock = some g → ∀ j, j < n → g ≠ A j
  farK : ∀ g, ov.ownBlock = some g → ∀ j, j < n → (kv j).ownBlock ≠ some g
  last : (o :: os).getLast? = some 0
  nk : n ≤ k + 1
  ol : os.length ≤ k
  dnz : b = true → Z ≠ []
  run : pz f (s.data.toList.drop k) (Z :: st) b = R
  fuel : s.size < f + k
  up : Below base w0 wr
def PaS (base : Nat) (s : ByteArray) (R : Option RT) (w0 : World) (top k : Nat) (b : Bool) (ov : Value) (wr : World) : Prop :=
  ∃ n A kv F o os Z st f, PaM base s R w0 top k b ov wr n A kv F o os Z st f
section
variable {base : Nat} {s : ByteArray} {R : Option RT} {w0 wr w' : World} {top k n f o : Nat} {b : Bool} {ov : Value} {A : Nat → Nat} {kv : Nat → Value} {F : Frs} {os : List Nat} {Z : List RT} {st : List (List RT)}
theorem PaM.ovl (h : PaM base s R w0 top k b ov wr n A kv F o os Z st f) {g : Nat} (hg : ov.ownBlock = some g) : base ≤ g ∧ g < wr.heap.size := ownBlock_lt h.own hg
/-- The list of open nodes. -/
theorem PaM.row (h : PaM base s R w0 top k b ov wr n A kv F o os Z st f) : ∃ g cap, ov = .slice (some ⟨g, 0, none⟩) (os.length + 1) cap ∧ os.length + 1 ≤ cap ∧ wr.cell? ⟨g, os.length, none⟩ = some (.pointer (some ⟨A o, 0, none⟩)) := by
  obtain ⟨q, cap, hv, hq⟩ := h.own.form (n := os.length + 1) (by simp)
  obtain ⟨g, rfl⟩ : ∃ g, q = some ⟨g, 0, none⟩ := by
    rcases hq with rfl | h2
    · obtain ⟨_, h3 | ⟨g, _, _, h3, _⟩⟩ := h.own
      · have := h3.2; simp at this
      · rw [hv] at h3; cases h3
    · exact h2
  have ho := h.own
  rw [hv] at ho
  have hcm : os.length + 1 ≤ cap := by
    rcases ho.2 with ⟨e, _⟩ | ⟨g2, cap2, cur, e, _, _, hn, _⟩
    · cases e
    · have e3 : cap = cap2 := (Value.slice.inj e).2.2
      rw [e3]; simpa using hn
  refine ⟨g, cap, hv, hcm, (owns_cell ho ?_).1⟩
  rw [List.getElem?_map, List.reverse_cons, List.getElem?_append_right (by simp)]
  simp [nptr]
/-- A node is laid and hung below the innermost open one. -/
structure PaN (base : Nat) (w0 : World) (top : Nat) (ov : Value) (n : Nat) (A' : Nat → Nat) (kv' : Nat → Value) (G : Frs) (ol : List Nat) (W : World) : Prop where
  fr : FAt base (n + 1) A' kv' G W
  a0 : A' 0 = top
  own : Owns base 66 W ov (ol.reverse.map (nptr A'))
  farA : ∀ g, ov.ownBlock = some g → ∀ j, j < n + 1 → g ≠ A' j
  farK : ∀ g, ov.ownBlock = some g → ∀ j, j < n + 1 → (kv' j).ownBlock ≠ some g
  up : Below base w0 W
theorem PaM.node (h : PaM base s R w0 top k b ov wr n A kv F o os Z st f) (nm : ByteArray) {g m cap : Nat} (hbs : base ≤ wr.heap.size)
    (hv : Owns base 66 w' (.slice (some ⟨g, 0, none⟩) m cap) ((F.kids o).map (nptr A) ++ [.pointer (some ⟨wr.heap.size, 0, none⟩)]))
    (hg : (wr.alloc (.cells #[.string nm, .slice none 0 0, .int .i64 0] 68)).grownBy w' (kv o).ownBlock) (hr : (kv o).ownBlock = some g ∨ wr.heap.size + 1 ≤ g) :
    ∃ A' kv', A' n = wr.heap.size ∧ PaN base w0 top ov n A' kv' (addF F n o nm) (o :: os) (w'.setCell ⟨A o, 1, none⟩ (.slice (some ⟨g, 0, none⟩) m cap)) := by
  have ho := h.zf.on
  have hon : o ≠ n := by omega
  have h1 := h.fr.node_new hbs nm 0
  have hAo : upd A n wr.heap.size o = A o := upd_ne _ _ hon
  have hkvo : upd kv n (.slice none 0 0) o = kv o := upd_ne _ _ hon
  have hmap : ∀ l : List Nat, (∀ k ∈ l, k < n) → l.map (nptr (upd A n wr.heap.size)) = l.map (nptr A) := fun l hl => by
    refine List.map_congr_left fun k hk => ?_
    have := hl k hk
    unfold nptr; rw [upd_ne _ _ (by omega)]
  have hsz : (wr.alloc (.cells #[.string nm, .slice none 0 0, .int .i64 0] 68)).heap.size = wr.heap.size + 1 := World.size_alloc _ _
  have h2 := h1.push (k := o) (c := n) (v := .slice (some ⟨g, 0, none⟩) m cap) (by omega) (by omega)
    (by
      show Owns _ _ _ _ ((upd F.kids n [] o ++ [n]).map _)
      rw [upd_ne _ _ hon, List.map_append, hmap _ (h.fr.kid o ho)]
      show Owns _ _ _ _ (_ ++ [nptr (upd A n wr.heap.size) n])
      unfold nptr; rw [upd_same]; exact hv) (by rw [hkvo]; exact hg) (fun b2 hb2 => by cases hb2; rw [hkvo, hsz]; exact hr)
  rw [hAo] at h2
  have h0n : 0 < n := by omega
  have hovb : ∀ g2, ov.ownBlock = some g2 → w'.heap[g2]? = wr.heap[g2]? := fun g2 hg2 => by
    have hl := (h.ovl hg2).2
    rw [hg.block g2 (by rw [hsz]; omega) (fun e => h.farK g2 hg2 o ho e.symm)]
    exact blk_alloc_lt _ _ _ hl
  refine ⟨_, _, upd_same _ _ _, h2.congr2 fun j hj => ⟨rfl, rfl, ?_⟩, by rw [upd_ne _ _ (by omega)]; exact h.a0, ?_, fun g2 hg2 j hj => ?_, fun g2 hg2 j hj => ?_, ?_⟩
  · show upd (upd F.kids n []) o (F.kids o ++ [n]) j = upd (upd F.kids n []) o (upd F.kids n [] o ++ [n]) j
    rw [upd_ne F.kids _ hon]
  · rw [hmap _ (fun k hk => h.zf.opn k (List.mem_reverse.1 hk))]
    refine h.own.same fun g2 hg2 => ?_
    rw [blk_setCell_other _ _ _ _ (h.farA g2 hg2 o ho)]
    exact hovb g2 hg2
  · by_cases e : j = n
    · subst e; rw [upd_same]; have := (h.ovl hg2).2; omega
    · rw [upd_ne _ _ e]; exact h.farA g2 hg2 j (by omega)
  · by_cases e : j = o
    · subst e; rw [upd_same]
      intro e2
      have e2 : g = g2 := by cases e2; rfl
      rcases hr with h3 | h3
      · exact h.farK g2 hg2 j ho (by rw [h3, e2])
      · have := (h.ovl hg2).2; omega
    · rw [upd_ne _ _ e]
      by_cases e2 : j = n
      · subst e2; rw [upd_same]; intro e3; cases e3
      · rw [upd_ne _ _ e2]; exact h.farK g2 hg2 j (by omega)
  · have ha : Below base wr (wr.alloc (.cells #[.string nm, .slice none 0 0, .int .i64 0] 68)) := (Below.refl _ _).alloc hbs _
    have hb2 : Below base (wr.alloc (.cells #[.string nm, .slice none 0 0, .int .i64 0] 68)) w' := ((h.fr.own o ho).alloc _).grown_below hg (by rw [hsz]; omega)
    exact ((h.up.trans ha).trans hb2).setCell (p := ⟨A o, 1, none⟩) (h.fr.lo o ho) _
theorem PaM.store (h : PaM base s R w0 top k b ov wr n A kv F o os Z st f) {ob : Obj} (hg : (wr.alloc ob).grownBy w' (kv o).ownBlock) :
    w'.cell? ⟨A o, 1, none⟩ = some (kv o) ∧ w'.frozen? ⟨A o, 1, none⟩ = false := by
  have ho := h.zf.on
  have hlt := h.fr.lt ho
  have h1 : w'.heap[A o]? = wr.heap[A o]? := by
    rw [hg.block _ (by rw [World.size_alloc]; omega) (fun e => h.fr.apart o o ho ho e.symm)]
    exact blk_alloc_lt _ _ _ hlt
  constructor
  · simp only [World.cell?, h1]; exact h.fr.kidv ho
  · simp only [World.frozen?, h1]; exact h.fr.thaw ho 1
/-- A leaf has been read. -/
theorem PaM.leaf (h : PaM base s R w0 top k b ov wr n A kv F o os Z st f) (hb : n < 2000) {W : World} {A' : Nat → Nat} {kv' : Nat → Value} {nm : ByteArray} {k' f' : Nat} (hk : k + 1 ≤ k') (hN : PaN base w0 top ov n A' kv' (addF F n o nm) (o :: os) W)
    (hrun : pz f' (s.data.toList.drop k') ((Z ++ [.node nm []]) :: st) true = R) (hf : s.size < f' + k') : PaS base s R w0 top k' true ov W :=
  ⟨_, _, _, _, _, _, _, _, _, ⟨hN.fr, hN.a0, h.zf.leaf nm hb, hN.own, hN.farA, hN.farK, h.last, (by have := h.nk; omega), (by have := h.ol; omega), (fun _ => by simp), hrun, hf, hN.up⟩⟩
/-- A node has been opened. -/
theorem PaM.opened (h : PaM base s R w0 top k b ov wr n A kv F o os Z st f) (hb : n < 2000) {W : World} {A' : Nat → Nat} {kv' : Nat → Value} {f' g m cap : Nat} (hN : PaN base w0 top ov n A' kv' (addF F n o ByteArray.empty) (o :: os) W) (hbs : base ≤ W.heap.size)
    (hv : Owns base 66 w' (.slice (some ⟨g, 0, none⟩) m cap) ((o :: os).reverse.map (nptr A') ++ [nptr A' n])) (hg : W.grownBy w' ov.ownBlock) (hr : ov.ownBlock = some g ∨ W.heap.size ≤ g)
    (hrun : pz f' (s.data.toList.drop (k + 1)) ([] :: Z :: st) false = R) (hf : s.size < f' + (k + 1)) : PaS base s R w0 top (k + 1) false (.slice (some ⟨g, 0, none⟩) m cap) w' := by
  have hold : ∀ b2, b2 < W.heap.size → (∀ g2, ov.ownBlock = some g2 → b2 ≠ g2) → w'.heap[b2]? = W.heap[b2]? := fun b2 hb2 hne => hg.block b2 hb2 fun e => hne b2 e.symm rfl
  refine ⟨_, _, _, _, _, _, _, _, _, ⟨hN.fr.same (fun i hi => hold _ (hN.fr.lt hi) fun g2 hg2 e => hN.farA g2 hg2 i hi e.symm) (fun i b2 hi hb2 => hold _ (hN.fr.ownlt hi hb2).2 fun g2 hg2 e => hN.farK g2 hg2 i hi (by rw [hb2, e])), hN.a0, h.zf.open hb, ?_, fun g2 hg2 j hj => ?_, fun g2 hg2 j hj => ?_, ?_, (by have := h.nk; omega), (by have := h.ol; simp; omega), (fun e => by cases e), hrun, hf, hN.up.trans (hN.own.grown_below hg hbs)⟩⟩
  · rw [List.reverse_cons, List.map_append]; exact hv
  · have hg2 : some g = some g2 := hg2
    injection hg2 with hg2; subst hg2
    rcases hr with h1 | h1
    · exact hN.farA g h1 j hj
    · have := hN.fr.lt hj; omega
  · have hg2 : some g = some g2 := hg2
    injection hg2 with hg2; subst hg2
    intro e
    rcases hr with h1 | h1
    · exact hN.farK g h1 j hj e
    · have := (hN.fr.ownlt hj e).2; omega
  · rw [List.getLast?_cons_cons]; exact h.last
theorem PaM.drew (h : PaM base s R w0 top k b ov wr n A kv F o os Z st f) : PaM base s R w0 top k b ov wr.drew n A kv F o os Z st f :=
  ⟨h.fr.up (Up.drewN wr 1), h.a0, h.zf, h.own.same fun _ _ => rfl, h.farA, h.farK, h.last, h.nk, h.ol, h.dnz, h.run, h.fuel, h.up.drew⟩
/-- The machine's step, at a character. -/
theorem PaM.step (h : PaM base s R w0 top k b ov wr n A kv F o os Z st f) (hk : k < s.size) : ∃ f' ch, f = f' + 1 ∧ s.size < f' + (k + 1) ∧ s.data.toList.drop k = ch :: s.data.toList.drop (k + 1) ∧ s[k] = ch := by
  have hf := h.fuel
  refine ⟨f - 1, s[k], by omega, by omega, ?_, rfl⟩
  have hl : k < s.data.toList.length := by rw [Array.length_toList]; exact hk
  rw [List.drop_eq_getElem_cons hl]
  congr 1
end
end Go.Proofs.Ytcaialhoclodjaa
namespace Go.Proofs.Ytcaialhoclodjaa
open Go.RowKit Go.Deep
end Go.Proofs.Ytcaialhoclodjaa
namespace Go.Proofs.Ytcaialhoclodjaa
open Go.RowKit Go.Deep
end Go.Proofs.Ytcaialhoclodjaa
namespace Go.Proofs.Ytcaialhoclodjaa
open Go.RowKit Go.Deep
end Go.Proofs.Ytcaialhoclodjaa
namespace Go.Proofs.Ytcaialhoclodjaa
open Go.RowKit Go.Deep
end Go.Proofs.Ytcaialhoclodjaa
namespace Go.Proofs.Ytcaialhoclodjaa
open Go.RowKit Go.Deep
end Go.Proofs.Ytcaialhoclodjaa
namespace Go.Proofs.Ytcaialhoclodjaa
open Go.RowKit Go.Deep
end Go.Proofs.Ytcaialhoclodjaa
namespace Go.Proofs.Ytcaialhoclodjaa
open Go.RowKit Go.Deep
end Go.Proofs.Ytcaialhoclodjaa
namespace Go.Proofs.Ytcaialhoclodjaa
open Go.RowKit Go.Deep
section
variable {P : Program} {ops : Array Oper} {Q : Exit → Act → World → Prop} {md : Region.Mode} {S : World → Prop} {t : Nat}
end
end Go.Proofs.Ytcaialhoclodjaa
namespace Go.Proofs.Ytcaialhoclodjaa
section
variable {t : Tre}
end
end Go.Proofs.Ytcaialhoclodjaa
namespace Go.Proofs.Ytcaialhoclodjaa
section
variable {t : Tre}
/-- The node of a name. -/
def fdN (ns : List ByteArray) (a : ByteArray) : Int := firstIx (fun j => decide (a = gs ns j)) ns.length
theorem mem_flt {ns : List ByteArray} {a : ByteArray} : a ∈ fltN ns ↔ ∃ j, j < ns.length ∧ gs ns j = a ∧ a.size ≠ 0 := by
  unfold fltN
  rw [List.mem_filter]
  constructor
  · rintro ⟨h1, h2⟩
    obtain ⟨j, hj, e⟩ := List.mem_iff_getElem.1 h1
    exact ⟨j, hj, by rw [← e]; simp [gs, hj], of_decide_eq_true h2⟩
  · rintro ⟨j, hj, e, h2⟩
    refine ⟨?_, decide_eq_true h2⟩
    have : gs ns j = ns[j] := by simp [gs, hj]
    rw [← e, this]; exact List.getElem_mem hj
theorem fd_ok (he : treeErr t = 0) {a : ByteArray} (ha : a ∈ fltN t.ns) : ∃ k : Nat, fdN t.ns a = (k : Int) ∧ LeafOk t k ∧ gs t.ns k = a := by
  obtain ⟨_, _, hl, _, _⟩ := treeErr_zero he
  obtain ⟨j, hj, e, h0⟩ := mem_flt.1 ha
  have hany : (List.range t.ns.length).any (fun j => decide (a = gs t.ns j)) = true := List.any_eq_true.2 ⟨j, List.mem_range.2 hj, decide_eq_true e.symm⟩
  rw [← firstIx_any] at hany
  have hge := of_decide_eq_true hany
  obtain ⟨k, hk⟩ := Int.eq_ofNat_of_zero_le hge
  obtain ⟨h1, h2, _⟩ := firstIx_spec hk
  have h2 : a = gs t.ns k := of_decide_eq_true h2
  exact ⟨k, hk, ⟨he, by omega, by rw [← h2]; exact h0⟩, h2.symm⟩
theorem fd_at (he : treeErr t = 0) {k : Nat} (hk : LeafOk t k) : fdN t.ns (gs t.ns k) = (k : Int) := by
  obtain ⟨_, _, hl, _, _⟩ := treeErr_zero he
  obtain ⟨j, h1, h2, h3⟩ := fd_ok he (a := gs t.ns k) (mem_flt.2 ⟨k, by rw [hl]; exact hk.lt, rfl, hk.nm⟩)
  rw [h1]
  have := h2.inj h2.lt hk.lt h2.nm h3
  rw [this]
end
section
variable {t : Tre} {la : Nat}
theorem rrx_names (h : LeafOk t la) : (fltN (flat (rrQt t la)).ns).Perm (fltN t.ns) := (rrQ_leaves h).trans (leafs_perm h.te)
end
end Go.Proofs.Ytcaialhoclodjaa
namespace Go.Proofs.Ytcaialhoclodjaa
end Go.Proofs.Ytcaialhoclodjaa
namespace Go.Proofs.Ytcaialhoclodjaa
end Go.Proofs.Ytcaialhoclodjaa
namespace Go.Proofs.Ytcaialhoclodjaa
theorem mem_gi {l : List Int} {x : Int} (h : x ∈ l) : ∃ k, k < l.length ∧ gi l k = x := by
  obtain ⟨k, hk, e⟩ := List.mem_iff_getElem.1 h
  exact ⟨k, hk, by simp [gi, hk, e]⟩
section
variable {t : Tre} {st : List Int}
end
end Go.Proofs.Ytcaialhoclodjaa
