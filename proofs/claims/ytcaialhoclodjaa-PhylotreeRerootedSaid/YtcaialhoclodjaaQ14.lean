/- phylotree.contracted: what it does to the forest. Rose trees of the reference's nodes, as they lie in memory; a node whose list of children grows. The contract of layer 31's reference's least. Rose trees appended to a tree that is numbered depth first. The contract of layer 31's reference's with and number. The contract of layer 31's reference's number. The contract of layer 31's reference's children. The contract of layer 31's reference's grow: the rose tree of a node. An append onto a slice without room, inside a region that draws its order; a node whose list of children is laid anew. Slices of a list of children. The contract of layer 31's reference's ordered. Names, as layer 1's and layer 31's references have them: Check, IsWord, IsName, named. The contract of layer 31's reference's Check. The contract of layer 31's reference's Canonical. Sets of sources as numbers: of, within, conflict, sources. The contract of the reference's SameGroups, at groups that are the same. The contract of sharederror.check. The contract of sharederror.Conflicts. Contracts: Index, Contains, IndexFunc, ContainsFunc over sets; sharederror.named; Max; far. Contracts: IndexFunc, ContainsFunc over groups; far. What grow computes, plain; its closures. The walk of grow (sharederror.Tree's closure). What sharederror.Tree computes, plain; slices.Clone of strings. The walk of sharederror.Tree. A list of groups of the call's own; a group appended. The contract of sharederror.Groups. The walk of sharederror.Groups. Great of layer 30; slices.Contains of numbers. Contracts: Great of layer 35, fine, Support, Original, Significant. The plain law of SharederrorPairs: sets as lists; the closures of the law. The tree that grow makes is a rose tree, numbered depth first. The rose tree of nested sets: leaves, sizes, no node with one child. -/
import Derived.Test.YtcaialhoclodjaaQ13
import Derived.Test.YtcaialhoclodjaaQ12
import Derived.Test.YtcaialhoclodjaaQ11
import Derived.Deep.CutRange
import Derived.Test.YtcaialhoclodjaaQ3
import Derived.Test.YtcaialhoclodjaaQ1
import Derived.ArgAppend
import Derived.Laws.Bits64b
import Derived.Laws.BitsAllLaws
namespace Go.Proofs.Ytcaialhoclodjaa
open Go.RowKit Go.Deep
section
variable {n base : Nat} {A : Nat → Nat} {kv : Nat → Value} {F : Frs} {w w' w2 : World} {rk : Nat → Nat}
def ctQ (F : Frs) (rk : Nat → Nat) (z : Nat) : List Nat := if (F.kids z).length = 1 then F.kids z else (F.kids z).map (cr F rk)
/-- Behind the first k children of y. -/
def ctU (F : Frs) (rk : Nat → Nat) (y k : Nat) : Frs := ⟨F.nm, F.old, fun z => if z = y then ((F.kids y).take k).map (cr F rk) ++ (F.kids y).drop k else (F.upto rk (ctQ F rk) (F.kids y) k).kids z⟩
def CtPost (base n : Nat) (A : Nat → Nat) (kv : Nat → Value) (F : Frs) (rk : Nat → Nat) (i : Nat) (w : World) (e : Ending) (w' : World) : Prop :=
  e = .returned (.pointer (some ⟨A (cr F rk i), 0, none⟩)) ∧ FAt base n A kv (F.sub rk (ctQ F rk) i) w' ∧ FUp n A kv w w'
theorem ct_chain (h : Wf F n rk) {y k : Nat} (hy : y < n) (hk : F.kids y = [k]) (z : Nat) : (F.sub rk (ctQ F rk) k).kids z = (F.sub rk (ctQ F rk) y).kids z := by
  show (if _ then _ else _) = if _ then _ else _
  by_cases e : z = y
  · subst e
    rw [subF_not h hy (by rw [hk]; simp), subF_self h hy, if_neg (by simp), if_pos rfl]
    unfold ctQ; rw [if_pos (by rw [hk]; rfl)]
  · rw [subF_eq h hy, hk, show (z == y) = false from beq_eq_false_iff_ne.2 e]
    simp
theorem ctU_zero (y z : Nat) : (ctU F rk y 0).kids z = F.kids z := by
  show (if _ then _ else _) = _
  split
  · rename_i e; subst e; simp
  · exact upto_zero _ _ _
theorem ctU_own (y k : Nat) : (ctU F rk y k).kids y = ((F.kids y).take k).map (cr F rk) ++ (F.kids y).drop k := by
  show (if _ then _ else _) = _
  rw [if_pos rfl]
theorem ctU_len (y k : Nat) : ((ctU F rk y k).kids y).length = (F.kids y).length := by
  rw [ctU_own, List.length_append, List.length_map, List.length_take, List.length_drop]; omega
theorem ctU_at {y k c : Nat} (hc : (F.kids y)[k]? = some c) : ((ctU F rk y k).kids y)[k]? = some c := by
  obtain ⟨hk, e⟩ := List.getElem?_eq_some_iff.1 hc
  rw [ctU_own, List.getElem?_append_right (by rw [List.length_map, List.length_take]; omega), List.length_map, List.length_take, List.getElem?_drop, show k + (k - min k (F.kids y).length) = k by omega]
  exact hc
theorem ctU_wf (h : Wf F n rk) {y : Nat} (hy : y < n) (k : Nat) : Wf (ctU F rk y k) n rk := ⟨fun i hi j hj => by
  have key : ∀ z, z < n → ∀ c ∈ F.kids z, cr F rk c < n ∧ rk (cr F rk c) < rk z := fun z hz c hc => by
    obtain ⟨h1, h2⟩ := h.kid z hz c hc
    obtain ⟨a, b, _⟩ := cr_ok h h1 (Nat.le_refl _)
    exact ⟨a, by omega⟩
  by_cases e : i = y
  · subst e
    rw [ctU_own, List.mem_append] at hj
    rcases hj with hj | hj
    · obtain ⟨c, hc, rfl⟩ := List.mem_map.1 hj
      exact key i hi c (List.mem_of_mem_take hc)
    · exact h.kid i hi j (List.mem_of_mem_drop hj)
  · have hj : j ∈ if i = y then _ else (F.upto rk (ctQ F rk) (F.kids y) k).kids i := hj
    rw [if_neg e] at hj
    have hj : j ∈ if _ then _ else _ := hj
    split at hj
    · unfold ctQ at hj
      split at hj
      · exact h.kid i hi j hj
      · obtain ⟨c, hc, rfl⟩ := List.mem_map.1 hj
        exact key i hi c hc
    · exact h.kid i hi j hj⟩
theorem ctU_fresh (h : Wf F n rk) {y k c : Nat} (hy : y < n) (hD : Dis F n rk y) (hc : (F.kids y)[k]? = some c) : ∀ z, subF F rk c z = true → (ctU F rk y k).kids z = F.kids z := fun z hs => by
  have hck := List.mem_of_getElem? hc
  have hne : z ≠ y := fun e => by subst e; rw [subF_not h hy hck] at hs; cases hs
  show (if _ then _ else _) = _
  rw [if_neg hne]
  exact upto_fresh h hy hD hc z hs
theorem ctU_small (hl : ∀ z, z < n → (F.kids z).length ≤ 1000) {y : Nat} (hy : y < n) (k z : Nat) (hz : z < n) : ((ctU F rk y k).kids z).length ≤ 1000 := by
  by_cases e : z = y
  · subst e; rw [ctU_len]; exact hl z hz
  · show (if z = y then _ else (F.upto rk (ctQ F rk) (F.kids y) k).kids z).length ≤ _
    rw [if_neg e]
    show (if _ then _ else _ : List Nat).length ≤ _
    split
    · unfold ctQ; split
      · exact hl z hz
      · rw [List.length_map]; exact hl z hz
    · exact hl z hz
theorem ctU_all (h : Wf F n rk) {y : Nat} (hy : y < n) (h1 : (F.kids y).length ≠ 1) (z : Nat) : (ctU F rk y (F.kids y).length).kids z = (F.sub rk (ctQ F rk) y).kids z := by
  by_cases e : z = y
  · subst e
    rw [ctU_own, List.take_length, List.drop_length, List.append_nil]
    show _ = if _ then _ else _
    rw [if_pos (subF_self h hy)]
    unfold ctQ; rw [if_neg h1]
  · show (if _ then _ else _) = _
    rw [if_neg e]
    exact upto_all h hy e
/-- One child in a list is replaced by another. -/
theorem FAt.setKid (h : FAt base n A kv F w) {y k c g m cap : Nat} (hy : y < n) (hv : kv y = .slice (some ⟨g, 0, none⟩) m cap) (hk : k < (F.kids y).length) (hc : c < n) :
    w.frozen? ⟨g, k, none⟩ = false ∧ (∃ x, w.cell? ⟨g, k, none⟩ = some x) ∧ FAt base n A kv { F with kids := upd F.kids y ((F.kids y).set k c) } (w.setCell ⟨g, k, none⟩ (nptr A c)) ∧ FUp n A kv w (w.setCell ⟨g, k, none⟩ (nptr A c)) := by
  obtain ⟨g2, cap2, e, hg, hgl, hcl, hfz, hset⟩ := (h.own y hy).set (j := k) (by simpa using hk)
  rw [hv] at e
  injection e with e1 e2 e3
  injection e1 with e1
  injection e1 with e1
  subst e1
  have hgy : (kv y).ownBlock = some g := by rw [hv]; rfl
  have hset := hset (nptr A c)
  rw [show ((F.kids y).map (nptr A)).set k (nptr A c) = ((F.kids y).set k c).map (nptr A) by rw [List.map_set]] at hset
  refine ⟨hfz, ⟨_, hcl⟩, ⟨fun i hi => ?_, h.lo, h.inj, fun i hi => ?_, h.apart, h.alone, fun i hi => ?_⟩, ?_⟩
  · rw [blk_setCell_other _ _ _ _ (fun e2 => h.apart y i hy hi (by rw [hgy, e2]))]; exact h.node i hi
  · by_cases e : i = y
    · subst e; simp only [upd_same]; exact hset
    · simp only [upd_ne _ _ e]; exact (h.own i hi).same fun b hb => blk_setCell_other _ _ _ _ (fun e2 => e (h.alone i y b hi hy hb (by rw [hgy, e2])))
  · by_cases e : i = y
    · subst e; simp only [upd_same]
      intro j hj
      rcases List.mem_or_eq_of_mem_set hj with h1 | h1
      · exact h.kid i hi j h1
      · rw [h1]; exact hc
    · simp only [upd_ne _ _ e]; exact h.kid i hi
  · exact ⟨rfl, rfl, rfl, by rw [World.size_setCell]; exact Nat.le_refl _, fun b hb _ hb2 => blk_setCell_other _ _ _ _ (fun e2 => hb2 y hy (by rw [hgy, e2]))⟩
/-- The next child is done, and put into its place. -/
theorem ct_step (hw : Wf F n rk) {y k c g m cap : Nat} (hy : y < n) (hD : Dis F n rk y) (hc : (F.kids y)[k]? = some c) (hv : kv y = .slice (some ⟨g, 0, none⟩) m cap)
    (h : FAt base n A kv ((ctU F rk y k).sub rk (ctQ (ctU F rk y k) rk) c) w2) :
    w2.cell? ⟨A y, 1, none⟩ = some (.slice (some ⟨g, 0, none⟩) m cap) ∧ w2.frozen? ⟨g, k, none⟩ = false ∧ (∃ x, w2.cell? ⟨g, k, none⟩ = some x) ∧ FAt base n A kv (ctU F rk y (k + 1)) (w2.setCell ⟨g, k, none⟩ (.pointer (some ⟨A (cr F rk c), 0, none⟩))) ∧ FUp n A kv w2 (w2.setCell ⟨g, k, none⟩ (.pointer (some ⟨A (cr F rk c), 0, none⟩))) := by
  have hck := List.mem_of_getElem? hc
  have hcn := (hw.kid y hy c hck).1
  have hG := ctU_wf hw hy k
  have hz := ctU_fresh hw hy hD hc
  have hsub := sub_cong hw hG hcn (Nat.le_refl _) hz
  obtain ⟨hkl, hke⟩ := List.getElem?_eq_some_iff.1 hc
  have hny : subF F rk c y = false := subF_not hw hy hck
  have hrow : ((ctU F rk y k).sub rk (ctQ (ctU F rk y k) rk) c).kids y = (ctU F rk y k).kids y := by
    show (if _ then _ else _) = _
    rw [hsub, hny, if_neg (by simp)]
  obtain ⟨h1, h4, h2, h3⟩ := h.setKid hy hv (k := k) (c := cr F rk c) (by rw [hrow, ctU_len]; exact hkl) (cr_ok hw hcn (Nat.le_refl _)).1
  refine ⟨by rw [h.kidv hy, hv], h1, h4, h2.congr2 fun z hzn => ⟨rfl, rfl, ?_⟩, h3⟩
  show _ = upd _ y _ z
  by_cases e : z = y
  · subst e
    rw [upd_same, hrow, ctU_own, ctU_own]
    have ht : ((F.kids z).take k).length = k := by rw [List.length_take]; omega
    rw [List.set_append_right _ _ (by rw [List.length_map, ht]; exact Nat.le_refl _), List.length_map, ht, Nat.sub_self]
    rw [List.take_add_one, hc, List.map_append, List.append_assoc]
    congr 1
    rw [List.drop_eq_getElem_cons hkl, List.set_cons_zero]; rfl
  · rw [upd_ne _ _ e]
    show (if _ then _ else _) = if _ then _ else _
    rw [if_neg e, upto_succ hc, hsub]
    split
    · rename_i hs
      unfold ctQ
      rw [hz z hs]
      split
      · rfl
      · refine List.map_congr_left fun j hj => ?_
        exact (cr_cong hw hG (hw.kid z hzn j hj).1 (Nat.le_refl _) fun u hu => hz u (sub_trans hw hcn (Nat.le_refl _) hs (subF_kid hw hzn hj hu))).symm
    · show _ = if _ then _ else _
      rw [if_neg e]
theorem rkAt_ex (hinj : ∀ i j, i < n → j < n → A i = A j → i = j) (rk : Nat → Nat) : ∃ m : Value → Nat, ∀ y, y < n → m (.pointer (some ⟨A y, 0, none⟩)) = rk y := by
  have h1 : ∀ v : Value, ∃ k : Nat, ∀ y, y < n → v = .pointer (some ⟨A y, 0, none⟩) → k = rk y := fun v => by
    by_cases h : ∃ y, y < n ∧ v = .pointer (some ⟨A y, 0, none⟩)
    · obtain ⟨y, hy, e⟩ := h
      refine ⟨rk y, fun z hz e2 => ?_⟩
      rw [e] at e2
      injection e2 with e2
      injection e2 with e2
      injection e2 with e2
      rw [hinj y z hy hz e2]
    · exact ⟨0, fun y hy e => absurd ⟨y, hy, e⟩ h⟩
  obtain ⟨m, hm⟩ := Classical.axiomOfChoice h1
  exact ⟨m, fun y hy => hm _ y hy rfl⟩
end
end Go.Proofs.Ytcaialhoclodjaa
namespace Go.Proofs.Ytcaialhoclodjaa
open Go.RowKit Go.Deep
end Go.Proofs.Ytcaialhoclodjaa
namespace Go.Proofs.Ytcaialhoclodjaa
open Go.RowKit Go.Deep
end Go.Proofs.Ytcaialhoclodjaa
namespace Go.Proofs.Ytcaialhoclodjaa
end Go.Proofs.Ytcaialhoclodjaa
namespace Go.Proofs.Ytcaialhoclodjaa
open Go.RowKit Go.Deep
/-- As RS of E11, the box anywhere but in the lists' own blocks. -/
structure RW (tb B0 : Nat) (w W : World) (P N Pv Nv : Value) (ps : List Int) (ns : List ByteArray) : Prop where
  gk : GK tb w W P N Pv Nv
  tl : TL B0 W Pv Nv ps ns
  same : W.heap[tb]? = w.heap[tb]?
  lo : (tb < w.heap.size ∧ P.ownBlock ≠ some tb ∧ N.ownBlock ≠ some tb) ∧ B0 ≤ w.heap.size
section
variable {tb B0 : Nat} {w W W' : World} {P N Pv Nv : Value} {ps : List Int} {ns : List ByteArray}
theorem RW.start (h : TL B0 w P N ps ns) (hl : (tb < w.heap.size ∧ P.ownBlock ≠ some tb ∧ N.ownBlock ≠ some tb) ∧ B0 ≤ w.heap.size) : RW tb B0 w w P N P N ps ns := ⟨GK.refl _ _ _ _, h, rfl, hl⟩
theorem RW.notP (h : RW tb B0 w W P N Pv Nv ps ns) : Pv.ownBlock ≠ some tb := fun e => by
  rcases h.gk.newP tb e with h1 | h1
  · exact h.lo.1.2.1 h1
  · have := h.lo.1.1; omega
theorem RW.notN (h : RW tb B0 w W P N Pv Nv ps ns) : Nv.ownBlock ≠ some tb := fun e => by
  rcases h.gk.newN tb e with h1 | h1
  · exact h.lo.1.2.2 h1
  · have := h.lo.1.1; omega
theorem RW.up (h : RW tb B0 w W P N Pv Nv ps ns) (hu : Up W W') : RW tb B0 w W' P N Pv Nv ps ns :=
  ⟨h.gk.up hu, h.tl.up hu, (Below.block hu tb (by have := h.gk.size; have := h.lo.1.1; omega)).trans h.same, h.lo⟩
theorem RW.appP (h : RW tb B0 w W P N Pv Nv ps ns) {g cap k : Nat} {u : Int} (ho : Owns B0 3 W' (.slice (some ⟨g, 0, none⟩) k cap) (ps.map (Value.int .i64) ++ [.int .i64 u])) (hg : W.grownBy W' Pv.ownBlock) (hor : Pv.ownBlock = some g ∨ W.heap.size ≤ g) :
    RW tb B0 w W' P N (.slice (some ⟨g, 0, none⟩) k cap) Nv (ps ++ [u]) ns := by
  have hlo := h.lo
  have hsz := h.gk.size
  have hnp := h.notP
  refine ⟨⟨hg.os.trans h.gk.os, hg.tape.trans h.gk.tape, hg.output.trans h.gk.output, Nat.le_trans hsz hg.size, fun b hb h1 h2 h3 => ?_, fun b hb => ?_, h.gk.newN⟩, ⟨by rw [List.map_append]; exact ho, h.tl.nown.same2 fun b hb => hg.block b (ownBlock_lt h.tl.nown hb).2 (fun e => h.tl.apart b e.symm hb), fun b hb hb2 => ?_⟩, (hg.block tb (by have := hlo.1.1; omega) (fun e => hnp e.symm)).trans h.same, hlo⟩
  · rw [← h.gk.block b hb h1 h2 h3]
    refine hg.block b (by omega) fun e => ?_
    rcases h.gk.newP b e.symm with h4 | h4
    · exact h2 h4.symm
    · omega
  · injection hb with hb
    have hb : g = b := hb
    subst hb
    rcases hor with h4 | h4
    · exact h.gk.newP g h4
    · exact .inr (by omega)
  · injection hb with hb
    have hb : g = b := hb
    subst hb
    rcases hor with h1 | h1
    · exact h.tl.apart g h1 hb2
    · have := (ownBlock_lt h.tl.nown hb2).2; omega
theorem RW.appN (h : RW tb B0 w W P N Pv Nv ps ns) {g cap k : Nat} {u : ByteArray} (ho : Owns B0 9 W' (.slice (some ⟨g, 0, none⟩) k cap) (ns.map Value.string ++ [.string u])) (hg : W.grownBy W' Nv.ownBlock) (hor : Nv.ownBlock = some g ∨ W.heap.size ≤ g) :
    RW tb B0 w W' P N Pv (.slice (some ⟨g, 0, none⟩) k cap) ps (ns ++ [u]) := by
  have hlo := h.lo
  have hsz := h.gk.size
  have hnn := h.notN
  refine ⟨⟨hg.os.trans h.gk.os, hg.tape.trans h.gk.tape, hg.output.trans h.gk.output, Nat.le_trans hsz hg.size, fun b hb h1 h2 h3 => ?_, h.gk.newP, fun b hb => ?_⟩, ⟨h.tl.pown.same2 fun b hb => hg.block b (ownBlock_lt h.tl.pown hb).2 (fun e => h.tl.apart b hb e.symm), by rw [List.map_append]; exact ho, fun b hb hb2 => ?_⟩, (hg.block tb (by have := hlo.1.1; omega) (fun e => hnn e.symm)).trans h.same, hlo⟩
  · rw [← h.gk.block b hb h1 h2 h3]
    refine hg.block b (by omega) fun e => ?_
    rcases h.gk.newN b e.symm with h4 | h4
    · exact h3 h4.symm
    · omega
  · injection hb with hb
    have hb : g = b := hb
    subst hb
    rcases hor with h4 | h4
    · exact h.gk.newN g h4
    · exact .inr (by omega)
  · injection hb2 with hb2
    have hb2 : g = b := hb2
    subst hb2
    rcases hor with h1 | h1
    · exact h.tl.apart g hb h1
    · have := (ownBlock_lt h.tl.pown hb).2; omega
theorem RW.cells {P0 N0 : Value} (h : RW tb B0 w W P N Pv Nv ps ns) (hb : w.heap[tb]? = some (Obj.cells #[P0, N0] 25 (0, 0))) :
    W.cell? ⟨tb, 0, none⟩ = some P0 ∧ W.cell? ⟨tb, 1, none⟩ = some N0 := by
  have h1 := h.same.trans hb
  exact ⟨by simp [World.cell?, h1], by simp [World.cell?, h1]⟩
theorem RW.frozen {P0 N0 : Value} (h : RW tb B0 w W P N Pv Nv ps ns) (hb : w.heap[tb]? = some (Obj.cells #[P0, N0] 25 (0, 0))) (o : Nat) : W.frozen? ⟨tb, o, none⟩ = false := by
  have h1 := h.same.trans hb
  simp [World.frozen?, h1]
end
/-- The tree under way, in block tb. -/
structure GW (tb B0 : Nat) (W : World) (P N : Value) (t : Tre) : Prop where
  box : W.heap[tb]? = some (Obj.cells #[P, N] 25 (0, 0))
  tl : TL B0 W P N t.ps t.ns
  lo : (P.ownBlock ≠ some tb ∧ N.ownBlock ≠ some tb) ∧ B0 ≤ W.heap.size
theorem GW.lt {tb B0 : Nat} {W : World} {P N : Value} {t : Tre} (h : GW tb B0 W P N t) : tb < W.heap.size := (Array.getElem?_eq_some_iff.1 h.box).1
theorem GW.cells {tb B0 : Nat} {W : World} {P N : Value} {t : Tre} (h : GW tb B0 W P N t) : W.cell? ⟨tb, 0, none⟩ = some P ∧ W.cell? ⟨tb, 1, none⟩ = some N ∧ W.frozen? ⟨tb, 0, none⟩ = false ∧ W.frozen? ⟨tb, 1, none⟩ = false := by
  refine ⟨?_, ?_, ?_, ?_⟩ <;> simp [World.cell?, World.frozen?, h.box]
theorem GW.up {tb B0 : Nat} {W W' : World} {P N : Value} {t : Tre} (h : GW tb B0 W P N t) (hu : Up W W') : GW tb B0 W' P N t :=
  ⟨(Below.block hu tb h.lt).trans h.box, h.tl.up hu, h.lo.1, Nat.le_trans h.lo.2 hu.size⟩
/-- Two lists are stored into the box. -/
theorem GW.put {tb B0 : Nat} {W X : World} {P N P' N' : Value} {t u : Tre} (h : GW tb B0 W P N t) (hk : GK tb W X P N P' N') (hs : X.heap[tb]? = W.heap[tb]?) (ht : TL B0 X P' N' u.ps u.ns) :
    GW tb B0 ((X.setCell ⟨tb, 0, none⟩ P').setCell ⟨tb, 1, none⟩ N') P' N' u ∧ GK tb W ((X.setCell ⟨tb, 0, none⟩ P').setCell ⟨tb, 1, none⟩ N') P N P' N' := by
  have h1 := hs.trans h.box
  have hl := h.lt
  have hp : P'.ownBlock ≠ some tb := fun e => by
    rcases hk.newP tb e with h2 | h2
    · exact h.lo.1.1 h2
    · omega
  have hn : N'.ownBlock ≠ some tb := fun e => by
    rcases hk.newN tb e with h2 | h2
    · exact h.lo.1.2 h2
    · omega
  have hset : ∀ b, b ≠ tb → ((X.setCell ⟨tb, 0, none⟩ P').setCell ⟨tb, 1, none⟩ N').heap[b]? = X.heap[b]? := fun b hb => by rw [blk_setCell_other _ _ _ _ hb, blk_setCell_other _ _ _ _ hb]
  have hsz : ((X.setCell ⟨tb, 0, none⟩ P').setCell ⟨tb, 1, none⟩ N').heap.size = X.heap.size := by simp [World.size_setCell]
  refine ⟨⟨by simp [World.setCell, Array.getElem?_modify, h1], ⟨ht.pown.same2 fun b hb => hset b (fun e => hp (by rw [hb, e])), ht.nown.same2 fun b hb => hset b (fun e => hn (by rw [hb, e])), ht.apart⟩, ⟨hp, hn⟩, by rw [hsz]; exact Nat.le_trans h.lo.2 hk.size⟩, hk.os, hk.tape, hk.output, by rw [hsz]; exact hk.size, fun b hb h2 h3 h4 => (hset b h2).trans (hk.block b hb h2 h3 h4), hk.newP, hk.newN⟩
theorem RW.store {tb B0 : Nat} {w W : World} {P N Pv Nv : Value} {t : Tre} {z : Int} {nm : ByteArray} (h0 : GW tb B0 w P N t) (h : RW tb B0 w W P N Pv Nv (t.ps ++ [z]) (t.ns ++ [nm])) :
    GW tb B0 ((W.setCell ⟨tb, 0, none⟩ Pv).setCell ⟨tb, 1, none⟩ Nv) Pv Nv (t.push z nm) ∧ GK tb w ((W.setCell ⟨tb, 0, none⟩ Pv).setCell ⟨tb, 1, none⟩ Nv) P N Pv Nv := h0.put h.gk h.same h.tl
end Go.Proofs.Ytcaialhoclodjaa
namespace Go.Proofs.Ytcaialhoclodjaa
open Go.RowKit Go.Deep
end Go.Proofs.Ytcaialhoclodjaa
namespace Go.Proofs.Ytcaialhoclodjaa
open Go.RowKit Go.Deep
end Go.Proofs.Ytcaialhoclodjaa
namespace Go.Proofs.Ytcaialhoclodjaa
open Go.RowKit Go.Deep
theorem ints_at {S : Nat → Prop} {w : World} {b off n cap : Nat} {xs : List Int} (h : IntsAt S w (.slice (some ⟨b, off, none⟩) n cap) xs) {k : Nat} (hk : k < xs.length) : w.cell? ⟨b, off + k, none⟩ = some (.int .i64 (gi xs k)) := by
  obtain ⟨b', o', e, hc⟩ := ints_get h hk
  injection e with e
  injection e with e1 e2
  subst e1; subst e2; exact hc
end Go.Proofs.Ytcaialhoclodjaa
namespace Go.Proofs.Ytcaialhoclodjaa
open Go.RowKit Go.Deep
section
variable {P : Program} {ops : Array Oper} {o : Oper} {a : Act} {w : World} {K : Act → World → Prop} {Q : Exit → Act → World → Prop} {E : Prop}
end
end Go.Proofs.Ytcaialhoclodjaa
namespace Go.Proofs.Ytcaialhoclodjaa
open Go.RowKit Go.Deep
end Go.Proofs.Ytcaialhoclodjaa
namespace Go.Proofs.Ytcaialhoclodjaa
open Go.RowKit Go.Deep
end Go.Proofs.Ytcaialhoclodjaa
namespace Go.Proofs.Ytcaialhoclodjaa
open Go.RowKit Go.Deep
end Go.Proofs.Ytcaialhoclodjaa
namespace Go.Proofs.Ytcaialhoclodjaa
open Go.RowKit Go.Deep
end Go.Proofs.Ytcaialhoclodjaa
namespace Go.Proofs.Ytcaialhoclodjaa
open Go.RowKit Go.Deep
end Go.Proofs.Ytcaialhoclodjaa
namespace Go.Proofs.Ytcaialhoclodjaa
open Go.RowKit Go.Deep
/-- The set of the first k elements. -/
def ofK (l : List Int) : Nat → Nat
  | 0 => 0
  | k + 1 => ofK l k ||| 2 ^ (gi l k).toNat
def ofS (l : List Int) : Nat := ofK l l.length
def Small (l : List Int) : Prop := ∀ k, k < l.length → 0 ≤ gi l k ∧ gi l k < 32
theorem ofK_lt {l : List Int} (h : Small l) : ∀ {k : Nat}, k ≤ l.length → ofK l k < 4294967296
  | 0, _ => by simp [ofK]
  | k + 1, hk => by
    have h1 := ofK_lt h (k := k) (by omega)
    have h2 := h k (by omega)
    have h3 : 2 ^ (gi l k).toNat < 2 ^ 32 := Nat.pow_lt_pow_right (by decide) (by omega)
    exact Nat.or_lt_two_pow (n := 32) (by omega) h3
theorem ofS_lt {l : List Int} (h : Small l) : ofS l < 4294967296 := ofK_lt h (Nat.le_refl _)
def withinB (a b : Nat) : Bool := decide (a &&& (18446744073709551615 - b) = 0)
def confB (a b : Nat) : Bool := decide (a &&& b ≠ 0) && !withinB a b && !withinB b a
/-- A list that could be the sources of a group. -/
def srcBad (l : List Int) (k : Nat) : Bool := decide (gi l k < 0) || decide (32 ≤ gi l k) || (decide (0 < k) && decide (gi l k ≤ gi l (k - 1)))
def srcOk (l : List Int) : Bool := !((List.range l.length).any (srcBad l)) && decide (0 < l.length)
end Go.Proofs.Ytcaialhoclodjaa
namespace Go.Proofs.Ytcaialhoclodjaa
open Go.RowKit Go.Deep
end Go.Proofs.Ytcaialhoclodjaa
namespace Go.Proofs.Ytcaialhoclodjaa
open Go.RowKit Go.Deep
def gBad (g : Grp) : Bool := decide (g.un < 0) || decide (g.st < 0) || decide (16 ≤ g.st) || !srcOk g.src
def gcErr (l : List Grp) : Int := if 256 < l.length then 4 else if (List.range l.length).any fun k => gBad (gg l k) then 1 else 0
end Go.Proofs.Ytcaialhoclodjaa
namespace Go.Proofs.Ytcaialhoclodjaa
open Go.RowKit Go.Deep
theorem same_quiet {P : Program} {f : FuncId} {args : Array Value} {w : World} {n : Nat} {v : Value} (h : Calls P f args (w.drewN n) fun e w' => e = .returned v ∧ w.drewN n = w') : Calls P f args (w.drewN n) fun e w'' => e = .returned v ∧ ∃ m, w'' = w.drewN m :=
  h.mono fun _ _ ⟨h1, h2⟩ => ⟨h1, n, h2.symm⟩
theorem gcErr_zero {l : List Grp} (h : gcErr l = 0) : l.length ≤ 256 ∧ ∀ k, k < l.length → 0 ≤ (gg l k).un ∧ 0 ≤ (gg l k).st ∧ (gg l k).st < 16 ∧ srcOk (gg l k).src = true := by
  unfold gcErr at h
  split at h
  · cases h
  · split at h
    · cases h
    · rename_i h1 h2
      refine ⟨by omega, fun k hk => ?_⟩
      have h3 := any_false (p := fun k => gBad (gg l k)) (by simpa using h2) hk
      unfold gBad at h3
      simp only [Bool.or_eq_false_iff, decide_eq_false_iff_not, Bool.not_eq_false'] at h3
      exact ⟨by omega, by omega, by omega, h3.2⟩
theorem srcOk_small {l : List Int} (h : srcOk l = true) : Small l ∧ 0 < l.length ∧ ∀ k, 0 < k → k < l.length → gi l (k - 1) < gi l k := by
  unfold srcOk at h
  simp only [Bool.and_eq_true, Bool.not_eq_true', decide_eq_true_eq] at h
  have h2 : ∀ k, k < l.length → srcBad l k = false := fun k hk => any_false h.1 hk
  refine ⟨fun k hk => ?_, h.2, fun k h0 hk => ?_⟩
  · have := h2 k hk
    unfold srcBad at this
    simp only [Bool.or_eq_false_iff, decide_eq_false_iff_not] at this
    omega
  · have := h2 k hk
    unfold srcBad at this
    simp only [Bool.or_eq_false_iff, decide_eq_false_iff_not, Bool.and_eq_false_imp, decide_eq_true_eq] at this
    have := this.2 h0
    omega
theorem RowsOwn.lt {base : Nat} {T : TypeId} {w : World} {d : Value} {xs : List (List Int)} (h : RowsOwn base T w d xs) {b : Nat} (hb : d.ownBlock = some b) : base ≤ b ∧ b < w.heap.size := by
  obtain ⟨vals, _, ho, _⟩ := h
  exact ownBlock_lt ho hb
theorem RowsOwn.len {base : Nat} {T : TypeId} {w : World} {d : Value} {xs : List (List Int)} (h : RowsOwn base T w d xs) : ∃ p c, d = .slice p xs.length c := by
  obtain ⟨vals, hl, ho, _⟩ := h
  obtain ⟨p, c, e, _⟩ := ho.form (n := xs.length) hl
  exact ⟨p, c, e⟩
section
variable {P : Program} {ops : Array Oper} {rest : List Oper} {o : Oper} {a : Act} {Q : Exit → Act → World → Prop}
end
end Go.Proofs.Ytcaialhoclodjaa
namespace Go.Proofs.Ytcaialhoclodjaa
open Go.RowKit Go.Shelf Go.Deep
def gn (l : List Nat) (k : Nat) : Nat := l.getD k 0
def SetsAt (S : Nat → Prop) (w : World) (v : Value) (xs : List Nat) : Prop := SlAt S w v xs.length (fun k => .int .u64 (gn xs k))
theorem SetsAt.keep {S : Nat → Prop} {w w' : World} {v : Value} {xs : List Nat} (h : SetsAt S w v xs) (k : Kept S w w') : SetsAt S w' v xs := SlAt.keep h k
theorem SetsAt.sub {S T : Nat → Prop} {w : World} {v : Value} {xs : List Nat} (h : SetsAt S w v xs) (k : ∀ b, S b → b < w.heap.size → T b) : SetsAt T w v xs := SlAt.sub h k
section
attribute [local go_sem] Oper.semAt_some
end
end Go.Proofs.Ytcaialhoclodjaa
namespace Go.Proofs.Ytcaialhoclodjaa
open Go.RowKit Go.Shelf Go.Deep
end Go.Proofs.Ytcaialhoclodjaa
namespace Go.Proofs.Ytcaialhoclodjaa
open Go.RowKit Go.Shelf Go.Deep
def U64 (x : Nat) : Prop := x < 18446744073709551616
end Go.Proofs.Ytcaialhoclodjaa
namespace Go.Proofs.Ytcaialhoclodjaa
open Go.RowKit Go.Deep
theorem withinB_iff {a b : Nat} (ha : U64 a) (hb : U64 b) : withinB a b = true ↔ ∀ i, a.testBit i = true → b.testBit i = true := by
  unfold withinB
  rw [decide_eq_true_eq]
  have e : 18446744073709551615 - b = 2 ^ 64 - (b + 1) := by unfold U64 at hb; omega
  have hb2 : b < 2 ^ 64 := hb
  have ha2 : a < 2 ^ 64 := ha
  rw [e]
  constructor
  · intro h i hi
    have h1 := congrArg (fun z => z.testBit i) h
    simp only [Nat.testBit_and, hi, Bool.true_and, Nat.zero_testBit, Nat.testBit_two_pow_sub_succ hb2] at h1
    have h64 : i < 64 := by
      rcases Nat.lt_or_ge i 64 with h2 | h2
      · exact h2
      · rw [Nat.testBit_lt_two_pow (Nat.lt_of_lt_of_le ha2 (Nat.pow_le_pow_right (by decide) h2))] at hi; cases hi
    simpa [h64] using h1
  · intro h
    refine Nat.eq_of_testBit_eq fun i => ?_
    rw [Nat.testBit_and, Nat.zero_testBit, Nat.testBit_two_pow_sub_succ hb2]
    cases hi : a.testBit i
    · rfl
    · rw [h i hi]; simp
theorem GK.keeps {tb B0 : Nat} {w W : World} {P N P' N' : Value} {ps : List Int} {ns : List ByteArray} (h : GK tb w W P N P' N') (k : TL B0 w P N ps ns) : Kept (fun b => b < B0 ∧ b ≠ tb) w W := fun b hb hl =>
  h.block b hl hb.2 (fun e => by have := (ownBlock_lt k.pown e.symm).1; have := hb.1; omega) (fun e => by have := (ownBlock_lt k.nown e.symm).1; have := hb.1; omega)
end Go.Proofs.Ytcaialhoclodjaa
namespace Go.Proofs.Ytcaialhoclodjaa
open Go.RowKit Go.Deep
def allN (n : Nat) : Nat := 2 ^ n - 1
/-- The sets of the inner nodes, of the first k groups. -/
def innK (l : List Grp) (all : Nat) : Nat → List Nat
  | 0 => []
  | k + 1 => if 1 < (gg l k).src.length ∧ ofS (gg l k).src ≠ all ∧ ofS (gg l k).src ∉ innK l all k then innK l all k ++ [ofS (gg l k).src] else innK l all k
def innL (l : List Grp) (all : Nat) : List Nat := innK l all l.length
theorem innK_mem {l : List Grp} {all x : Nat} : ∀ {k : Nat}, x ∈ innK l all k → ∃ j, j < k ∧ x = ofS (gg l j).src ∧ 1 < (gg l j).src.length ∧ x ≠ all
  | 0, h => by cases h
  | k + 1, h => by
    unfold innK at h
    split at h
    · rename_i hc
      rcases List.mem_append.1 h with h | h
      · obtain ⟨j, h1, h2⟩ := innK_mem h; exact ⟨j, by omega, h2⟩
      · obtain rfl : x = ofS (gg l k).src := by simpa using h
        exact ⟨k, by omega, rfl, hc.1, hc.2.1⟩
    · obtain ⟨j, h1, h2⟩ := innK_mem h; exact ⟨j, by omega, h2⟩
/-- Names of the tree are names of leaves, or empty. -/
def Nmd (Q : ByteArray → Prop) (t : Tre) : Prop := ∀ s ∈ t.ns, Q s
theorem Nmd.gs {Q : ByteArray → Prop} {t : Tre} (h : Nmd Q t) (h0 : Q ByteArray.empty) (k : Nat) : Q (gs t.ns k) := by
  by_cases hk : k < t.ns.length
  · exact h _ (by simp [Ytcaialhoclodjaa.gs, hk])
  · have : Ytcaialhoclodjaa.gs t.ns k = ByteArray.empty := by simp [Ytcaialhoclodjaa.gs, show t.ns.length ≤ k by omega]
    rw [this]; exact h0
end Go.Proofs.Ytcaialhoclodjaa
namespace Go.Proofs.Ytcaialhoclodjaa
open Go.RowKit Go.Deep
theorem nil_tree (W : World) : TreeAt Any W (.agg #[.slice none 0 0, .slice none 0 0]) ⟨[], []⟩ :=
  ⟨_, _, rfl, ⟨none, 0, rfl, Nat.le_refl _, .inl rfl⟩, ⟨none, 0, rfl, Nat.le_refl _, .inl rfl⟩⟩
theorem boxed {W : World} {B : Nat} {P N : Value} (hb : W.heap[B]? = some (Obj.cells #[P, N] 25 (0, 0))) : W.cell? ⟨B, 0, none⟩ = some P ∧ W.cell? ⟨B, 1, none⟩ = some N ∧ W.frozen? ⟨B, 0, none⟩ = false ∧ W.frozen? ⟨B, 1, none⟩ = false := by
  refine ⟨?_, ?_, ?_, ?_⟩ <;> simp [World.cell?, World.frozen?, hb]
section
variable {P : Program} {ops : Array Oper} {rest : List Oper} {o : Oper} {a : Act} {Q : Exit → Act → World → Prop}
/-- 'out = append(out, u)', the length and the new block's number said. -/
theorem wpList_appM (W : World) (hgd : o.guard = none) (s x : Operand) (t : TypeId) (ho : o.op = .call { callee := .builtin .append, args := #[s, x], argTypes := #[t, t] })
    (base : Nat) (e : TypeId) (z : Value) (bytes : Nat) (ht : P.underlying t = some (.slice e)) (hinfo : (P.info? e).map (fun i => (i.zero, i.size, i.bytes)) = some (some z, 1, bytes))
    (hz1 : z.cells.size = 1) (hb8 : bytes ≤ 64) {v : Value} {vs : List Value} (hown : Owns base e W v vs) (hs : a.eval s = v) (u : Value) (m : Nat) (hm : W.heap.size = m)
    (hx : a.eval x = .slice (some ⟨m, 0, none⟩) 1 1) (h1 : u.oneCell' = true) (n : Nat) (hvn : vs.length = n) (hn : n ≤ 1000000) (hbase : base ≤ W.heap.size)
    (h : ∀ g cap w', Owns base e w' (.slice (some ⟨g, 0, none⟩) (n + 1) cap) (vs ++ [u]) → W.grownBy w' v.ownBlock → Below base W w' → wpList P ops Q rest (a.put o.dst (.slice (some ⟨g, 0, none⟩) (n + 1) cap)) w') :
    wpList P ops Q (o :: rest) a (W.alloc (.cells #[u] e)) := by
  subst hvn; subst hm
  exact wpList_app1 W hgd s x t ho base e z bytes ht hinfo hz1 hb8 hown hs u hx h1 hn hbase h
end
theorem Owns.sets {base : Nat} {e : TypeId} {w : World} {v : Value} {xs : List Nat} (h : Owns base e w v (xs.map fun (x : Nat) => Value.int .u64 x)) : SetsAt (fun b => base ≤ b) w v xs := by
  have := h.slAt
  rw [List.length_map] at this
  exact this.congr fun k hk => by simp [gn, hk]
end Go.Proofs.Ytcaialhoclodjaa
namespace Go.Proofs.Ytcaialhoclodjaa
open Go.RowKit Go.Deep
def cellsG : List Grp → List Value → List Value
  | g :: gs, s :: ss => .int .i64 g.un :: .int .i64 g.st :: s :: cellsG gs ss
  | _, _ => []
def GrpsOwn (base : Nat) (T : TypeId) (w : World) (v : Value) (gs : List Grp) : Prop :=
  ∃ svs : List Value, svs.length = gs.length ∧ w.ownsRow base T 3 v gs.length (cellsG gs svs) ∧ ∀ i, i < gs.length → IntsAt (fun b => some b ≠ v.ownBlock) w (svs.getD i undef) (gg gs i).src
theorem GrpsOwn.nil (base : Nat) (T : TypeId) (w : World) : GrpsOwn base T w (.slice none 0 0) [] := ⟨[], rfl, World.ownsRow_nil _ _ _ _, fun _ hi => absurd hi (Nat.not_lt_zero _)⟩
section
variable {P : Program} {ops : Array Oper} {rest : List Oper} {o : Oper} {a : Act} {Q : Exit → Act → World → Prop}
end
end Go.Proofs.Ytcaialhoclodjaa
namespace Go.Proofs.Ytcaialhoclodjaa
open Go.RowKit Go.Deep
theorem GrpsOwn.kept {base : Nat} {T : TypeId} {w w' : World} {v : Value} {gs : List Grp} (h : GrpsOwn base T w v gs) (k : Up w w') : GrpsOwn base T w' v gs := by
  obtain ⟨svs, hl, ho, hr⟩ := h
  refine ⟨svs, hl, ⟨ho.1, ?_⟩, fun i hi => (hr i hi).keep (k.kept _)⟩
  rcases ho.2 with h1 | ⟨g, cap, cur, e, hg, hc, h2⟩
  · exact .inl h1
  · exact .inr ⟨g, cap, cur, e, hg, (Below.block k g (Array.getElem?_eq_some_iff.1 hc).1).trans hc, h2⟩
theorem GrpsOwn.lt {base : Nat} {T : TypeId} {w : World} {v : Value} {gs : List Grp} (h : GrpsOwn base T w v gs) {b : Nat} (hb : v.ownBlock = some b) : base ≤ b ∧ b < w.heap.size := by
  obtain ⟨svs, _, ho, _⟩ := h
  exact World.ownsRow.lt ho b hb
end Go.Proofs.Ytcaialhoclodjaa
namespace Go.Proofs.Ytcaialhoclodjaa
open Go.RowKit Go.Deep
end Go.Proofs.Ytcaialhoclodjaa
namespace Go.Proofs.Ytcaialhoclodjaa
open Go.RowKit Go.Deep
theorem contains_int_t (S : Nat → Prop) (w : World) (v : Value) (xs : List Int) (x : Int) (h : IntsAt S w v xs) (hn : xs.length ≤ 1000000) :
    Calls Try.prog 76 #[v, .int .i64 x] w fun e w' => e = .returned (.bool ((List.range xs.length).any fun j => decide (x = gi xs j))) ∧ w = w' := by
  have hx := firstIx_any (fun j => decide (x = gi xs j)) xs.length
  have HX := Lib.hid hx
  have HI := Lib.hid (index_int_t S w v xs x h hn)
  clear hx h
  go_enter Try.func76, Try.ntmps76
  go_wp2_with fail
  refine HI.out.mono ?_
  rintro e w' ⟨rfl, rfl⟩
  go_wp2_with fail
  go_ret
  exact ⟨ret_bool (by rw [← HX.out]), rfl⟩
theorem any_memI (x : Int) (xs : List Int) : ((List.range xs.length).any fun j => decide (x = gi xs j)) = decide (x ∈ xs) := by
  rw [Bool.eq_iff_iff, List.any_eq_true, decide_eq_true_eq]
  constructor
  · rintro ⟨j, hj, h⟩
    rw [of_decide_eq_true h]; exact gi_mem (List.mem_range.1 hj)
  · intro h
    obtain ⟨j, hj, e⟩ := List.getElem_of_mem h
    exact ⟨j, List.mem_range.2 hj, by simp [gi, hj, e]⟩
end Go.Proofs.Ytcaialhoclodjaa
namespace Go.Proofs.Ytcaialhoclodjaa
open Go.RowKit Go.Deep
end Go.Proofs.Ytcaialhoclodjaa
namespace Go.Proofs.Ytcaialhoclodjaa
open Go.RowKit Go.Deep
theorem testBit_ofK {l : List Int} (h : Small l) (i : Nat) : ∀ {k : Nat}, k ≤ l.length → ((ofK l k).testBit i = true ↔ ∃ j, j < k ∧ gi l j = i)
  | 0, _ => by simp [ofK]
  | k + 1, hk => by
    have ih := testBit_ofK h i (k := k) (by omega)
    have hb := h k (by omega)
    show ((ofK l k ||| 2 ^ (gi l k).toNat).testBit i = true ↔ _)
    rw [Nat.testBit_or, Bool.or_eq_true, ih, Nat.testBit_two_pow, decide_eq_true_eq]
    constructor
    · rintro (⟨j, h1, h2⟩ | h1)
      · exact ⟨j, by omega, h2⟩
      · exact ⟨k, by omega, by omega⟩
    · rintro ⟨j, h1, h2⟩
      by_cases e : j = k
      · subst e; exact .inr (by omega)
      · exact .inl ⟨j, by omega, h2⟩
theorem testBit_ofS {l : List Int} (h : Small l) (i : Nat) : (ofS l).testBit i = true ↔ (i : Int) ∈ l := by
  unfold ofS
  rw [testBit_ofK h i (Nat.le_refl _)]
  constructor
  · rintro ⟨j, h1, h2⟩; rw [← h2]; exact gi_mem h1
  · intro hm
    obtain ⟨j, hj, e⟩ := List.getElem_of_mem hm
    exact ⟨j, hj, by simp [gi, hj, e]⟩
theorem ofS_u64 {l : List Int} (h : Small l) : U64 (ofS l) := Nat.lt_trans (ofS_lt h) (by decide)
theorem small_mem {l : List Int} (h : Small l) {x : Int} (hx : x ∈ l) : ∃ i : Nat, x = i ∧ i < 32 := by
  obtain ⟨j, hj, e⟩ := List.getElem_of_mem hx
  have h1 := h j hj
  have h2 : gi l j = x := by simp [gi, hj, e]
  rw [h2] at h1
  exact ⟨x.toNat, by omega, by omega⟩
end Go.Proofs.Ytcaialhoclodjaa
namespace Go.Proofs.Ytcaialhoclodjaa
end Go.Proofs.Ytcaialhoclodjaa
namespace Go.Proofs.Ytcaialhoclodjaa
def bitsN (n x : Nat) : List Nat := (List.range n).filter fun i => x.testBit i
theorem mem_bitsN {n x i : Nat} : i ∈ bitsN n x ↔ i < n ∧ x.testBit i = true := by unfold bitsN; rw [List.mem_filter, List.mem_range]
structure Lam (inner : List Nat) (n : Nat) : Prop where
  u : ∀ y ∈ inner, U64 y
  sub : ∀ y ∈ inner, ∀ i, y.testBit i = true → i < n
  two : ∀ y ∈ inner, 2 ≤ (bitsN n y).length
  lam : ∀ y ∈ inner, ∀ z ∈ inner, withinB y z = true ∨ withinB z y = true ∨ y &&& z = 0
  nd : inner.Nodup
/-- A part as it should be: inner parts without a name, leaves named, not one child. -/
def PartOk (s : RT) : Prop := (s.kids ≠ [] → s.nm.size = 0) ∧ (s.kids = [] → namedB s.nm.data.toList = true) ∧ s.kids.length ≠ 1
def fltN (l : List ByteArray) : List ByteArray := l.filter fun s => decide (s.size ≠ 0)
theorem fltN_app (a b : List ByteArray) : fltN (a ++ b) = fltN a ++ fltN b := List.filter_append _ _
theorem leafR_node {nm : ByteArray} {ks : List RT} (h : nm.size = 0) : leafR (.node nm ks) = ks.flatMap leafR := by
  have key : ∀ ks : List RT, fltN (nsRs ks) = ks.flatMap leafR := by
    intro ks
    induction ks with
    | nil => rfl
    | cons r rs ih => rw [nsRs, fltN_app, ih, List.flatMap_cons]; rfl
  show fltN (nsR _) = _
  rw [nsR, ← key]
  unfold fltN
  rw [List.filter_cons_of_neg (by simp [h])]
theorem leafR_leaf {nm : ByteArray} (h : nm.size ≠ 0) : leafR (.node nm []) = [nm] := by
  show List.filter _ (nsR _) = _
  rw [nsR, nsRs, List.filter_cons_of_pos (by simpa using h)]; rfl
end Go.Proofs.Ytcaialhoclodjaa
