/- Between two rounds of slices.AppendSeq at ints: cut out of V1. Nodes in the order in which split.below yields them; the places below a node out of those below its children: plain. -/
import Derived.RangeFuncWrites
import Derived.Test.YtcbmbhghmfehpaaGreatQ3
import Derived.Test.YtcbmbhghmfehpaaGreatQ4
import Derived.Laws.EntriesVeiled
import Derived.Test.YtcbmbhghmfehpaaGreatQ25
import Derived.Test.YtcbmbhghmfehpaaGreatQ22
namespace Go.Proofs.YtcbmbhghmfehpaaGreat
open Go.RowKit Go.Shelf Go.Deep
attribute [local go_sem] Oper.semAt_some
theorem Owns.sameZ {base : Nat} {e : TypeId} {w w' : World} {v : Value} {vs : List Value} (h : Owns base e w v vs) (k : ∀ b, v.ownBlock = some b → w'.heap[b]? = w.heap[b]?) : Owns base e w' v vs := by
  obtain ⟨hl, h | ⟨g, cap, cur, rfl, hg, hc, hr⟩⟩ := h
  · exact ⟨hl, .inl h⟩
  · exact ⟨hl, .inr ⟨g, cap, cur, rfl, hg, by rw [k g rfl]; exact hc, hr⟩⟩
theorem Owns.mono_baseZ {base base' : Nat} {e : TypeId} {w : World} {v : Value} {vs : List Value} (h : Owns base e w v vs) (hb : base' ≤ base) : Owns base' e w v vs := by
  obtain ⟨hl, h | ⟨g, cap, cur, rfl, hg, hc, hr⟩⟩ := h
  · exact ⟨hl, .inl h⟩
  · exact ⟨hl, .inr ⟨g, cap, cur, rfl, Nat.le_trans hb hg, hc, hr⟩⟩
theorem Owns.typedV {base : Nat} {e : TypeId} {w : World} {v : Value} {vs : List Value} (h : Owns base e w v vs) {b : Nat} (hb : v.ownBlock = some b) : ∃ c, w.heap[b]? = some (Obj.cells c e (0, 0)) := by
  obtain ⟨_, ⟨rfl, _⟩ | ⟨g, cap, cur, rfl, _, hc, _⟩⟩ := h
  · cases hb
  · injection hb with hb; subst hb; exact ⟨cur, hc⟩

/-- Between two rounds of AppendSeq: the box's list; what lay before the call lies as it lay. -/
def AqI (w0 : World) (pre : List Int) (W : World) : Prop := Below w0.heap.size w0 W ∧ w0.heap.size + 1 ≤ W.heap.size ∧ ∃ v, W.heap[w0.heap.size]? = some (Obj.cells #[v] 26 (0, 0)) ∧ Owns (w0.heap.size + 1) 3 W v (pre.map (Value.int .i64))
theorem AqI.own (w0 : World) {B : Nat} (hB : w0.heap.size + 1 ≤ B) : OwnFrom B (AqI w0) := by
  rintro s X Y row ⟨hb, hsz, v, hbox, hown⟩ hg hr
  have hcell : ∀ (b : Nat) (c : Array Value) (e : TypeId) (z : Nat × Nat), X.heap[b]? = some (Obj.cells c e z) → Y.heap[b]? = X.heap[b]? := fun b c e z hc => hg.block b (Array.getElem?_eq_some_iff.1 hc).1 (fun e2 => by
    obtain ⟨_, o, h1, h2⟩ := hr b e2.symm
    rw [hc] at h1; injection h1 with h1; subst h1; cases h2)
  refine ⟨⟨hg.os.trans hb.os, hg.tape.trans hb.tape, hg.output.trans hb.output, Nat.le_trans hb.size hg.size, fun b hb2 => (hg.block b (by have := hb.size; omega) (fun e => by obtain ⟨h1, _⟩ := hr b e.symm; omega)).trans (hb.block b hb2)⟩, Nat.le_trans hsz hg.size, v, (hcell _ _ _ _ hbox).trans hbox, hown.sameZ fun b hb2 => ?_⟩
  obtain ⟨c, hc⟩ := hown.typedV hb2
  exact hcell _ _ _ _ hc
end Go.Proofs.YtcbmbhghmfehpaaGreat
namespace Go.Proofs.YtcbmbhghmfehpaaGreat
open Go.RowKit Go.Shelf Go.Deep
def AqPost (w : World) (xs : List Int) (e : Ending) (w' : World) : Prop := Up w w' ∧ ∃ v, e = .returned v ∧ Owns w.heap.size 3 w' v (xs.map (Value.int .i64))
theorem AqI.next {w W We : World} {pre : List Int} {x : Int} {v v' : Value} (hbw : Below w.heap.size w W) (hsz : w.heap.size + 1 ≤ W.heap.size) (hbox : W.heap[w.heap.size]? = some (Obj.cells #[v] 26 (0, 0))) (hown : Owns (w.heap.size + 1) 3 W v (pre.map (Value.int .i64)))
    (ho : Owns (w.heap.size + 1) 3 We v' (pre.map (Value.int .i64) ++ [.int .i64 x])) (hg : (W.alloc (.cells #[.int .i64 x] 3)).grownBy We v.ownBlock) :
    KeepsFrom (w.heap.size + 1) W (We.setCell ⟨w.heap.size, 0, none⟩ v') ∧ KS (· < w.heap.size) W (We.setCell ⟨w.heap.size, 0, none⟩ v') ∧ AqI w (pre ++ [x]) (We.setCell ⟨w.heap.size, 0, none⟩ v') := by
  have hset : ∀ b, b ≠ w.heap.size → (We.setCell ⟨w.heap.size, 0, none⟩ v').heap[b]? = We.heap[b]? := fun b hb => blk_setCell_other _ _ _ _ hb
  have hszs : (We.setCell ⟨w.heap.size, 0, none⟩ v').heap.size = We.heap.size := by simp [World.size_setCell]
  have hga : ∀ b, b < W.heap.size → some b ≠ v.ownBlock → We.heap[b]? = W.heap[b]? := fun b hb hne => (hg.block b (by rw [World.size_alloc]; exact Nat.lt_succ_of_lt hb) hne).trans (Below.heap_alloc W _ b hb)
  have hsize : W.heap.size + 1 ≤ We.heap.size := by have h := hg.size; rw [World.size_alloc] at h; exact h
  have hlow : ∀ b, b < w.heap.size + 1 → We.heap[b]? = W.heap[b]? := fun b hb => hga b (by omega) (fun e => by have := (ownBlock_lt hown e.symm).1; omega)
  have hbe := (hlow w.heap.size (Nat.lt_succ_self _)).trans hbox
  refine ⟨⟨by omega, fun k o hk ho2 hc => ?_⟩, fun b (hb : b < w.heap.size) => (hset b (by omega)).trans (hlow b (by omega)), ⟨hg.os.trans hbw.os, hg.tape.trans hbw.tape, hg.output.trans hbw.output, by omega, fun b hb => ((hset b (by omega)).trans (hlow b (by omega))).trans (hbw.block b hb)⟩, by omega, v', ?_, ?_⟩
  · have hkl : k < W.heap.size := (Array.getElem?_eq_some_iff.1 ho2).1
    rw [hset k (by omega), hga k hkl (fun e => by
      obtain ⟨c, h⟩ := hown.typedV e.symm
      rw [ho2] at h; injection h with h; subst h; cases hc)]
    exact ho2
  · simp [World.setCell, Array.getElem?_modify, hbe]
  · rw [List.map_append]
    exact ho.sameZ fun b hb => hset b (by have := (ownBlock_lt ho hb).1; omega)
end Go.Proofs.YtcbmbhghmfehpaaGreat
namespace Go.Proofs.YtcbmbhghmfehpaaGreat
def posD (ps : List Int) : Nat → Nat → List Nat
  | 0, _ => []
  | d + 1, i => (kidsL ps i).flatMap (posD ps d) ++ if i = 0 then [] else [i]
def posF (t : Tre) (i : Nat) : List Nat := posD t.ps (t.ps.length - i) i
theorem flatMap_cong {α β : Type} {f g : α → List β} : ∀ {l : List α}, (∀ x ∈ l, f x = g x) → l.flatMap f = l.flatMap g
  | [], _ => rfl
  | a :: l, h => by
    rw [List.flatMap_cons, List.flatMap_cons, h a (by simp), flatMap_cong fun x hx => h x (List.mem_cons_of_mem _ hx)]
theorem posD_fuel (ps : List Int) : ∀ (d e i : Nat), ps.length - i ≤ d → ps.length - i ≤ e → i < ps.length → posD ps d i = posD ps e i
  | 0, e, i, h, _, hi => by omega
  | d + 1, 0, i, _, h, hi => by omega
  | d + 1, e + 1, i, h1, h2, hi => by
    rw [posD, posD]
    congr 1
    refine flatMap_cong fun c hc => ?_
    obtain ⟨c1, c2, _⟩ := mem_kidsL.1 hc
    exact posD_fuel ps d e c (by omega) (by omega) c1
theorem posF_eq (t : Tre) {i : Nat} (hi : i < t.ps.length) : posF t i = (kidsL t.ps i).flatMap (posF t) ++ if i = 0 then [] else [i] := by
  unfold posF
  obtain ⟨d, hd⟩ : ∃ d, t.ps.length - i = d + 1 := ⟨t.ps.length - i - 1, by omega⟩
  rw [hd, posD]
  congr 1
  refine flatMap_cong fun c hc => ?_
  obtain ⟨c1, c2, _⟩ := mem_kidsL.1 hc
  exact posD_fuel t.ps _ _ c (by omega) (Nat.le_refl _) c1
section
variable {t : Tre} {names : List ByteArray}
theorem posF_nodes (h : treeErr t = 0) : ∀ (d i : Nat), t.ps.length - i ≤ d → i < t.ps.length → (∀ k, k ∈ posF t i ↔ k ∈ nodesF (frT t) (rkT t) i ∧ k ≠ 0) ∧ (posF t i).length ≤ (nodesF (frT t) (rkT t) i).length
  | 0, i, hd, hi => by omega
  | d + 1, i, hd, hi => by
    have e := nodesF_eq (frT_arb h).wf hi
    rw [frT_kids] at e
    have ih : ∀ c ∈ kidsL t.ps i, (∀ k, k ∈ posF t c ↔ k ∈ nodesF (frT t) (rkT t) c ∧ k ≠ 0) ∧ (posF t c).length ≤ (nodesF (frT t) (rkT t) c).length := fun c hc => by
      obtain ⟨c1, c2, _⟩ := mem_kidsL.1 hc
      exact posF_nodes h d c (by omega) c1
    rw [posF_eq t hi, e]
    constructor
    · intro k
      rw [List.mem_append, List.mem_flatMap, List.mem_cons, List.mem_flatMap]
      constructor
      · rintro (⟨c, hc, hk⟩ | hk)
        · obtain ⟨h1, h2⟩ := ((ih c hc).1 k).1 hk
          exact ⟨.inr ⟨c, hc, h1⟩, h2⟩
        · by_cases h0 : i = 0
          · rw [if_pos h0] at hk; cases hk
          · rw [if_neg h0, List.mem_singleton] at hk
            subst hk; exact ⟨.inl rfl, h0⟩
      · rintro ⟨rfl | ⟨c, hc, hk⟩, h2⟩
        · rw [if_neg h2]; exact .inr (by simp)
        · exact .inl ⟨c, hc, ((ih c hc).1 k).2 ⟨hk, h2⟩⟩
    · have hs : ∀ l : List Nat, (∀ c ∈ l, (posF t c).length ≤ (nodesF (frT t) (rkT t) c).length) → (l.flatMap (posF t)).length ≤ (l.flatMap (nodesF (frT t) (rkT t))).length := fun l => by
        induction l with
        | nil => intro _; exact Nat.le_refl _
        | cons a l ihl =>
          intro hl
          have h1 := hl a (by simp)
          have h2 := ihl fun c hc => hl c (List.mem_cons_of_mem _ hc)
          rw [List.flatMap_cons, List.flatMap_cons, List.length_append, List.length_append]; omega
      have h1 := hs _ fun c hc => (ih c hc).2
      have h2 : (if i = 0 then ([] : List Nat) else [i]).length ≤ 1 := by split <;> simp
      rw [List.length_append, List.length_cons]
      show _ ≤ ((kidsL t.ps i).flatMap (nodesF (frT t) (rkT t))).length + 1
      omega
theorem mem_pos (h : treeErr t = 0) {k : Nat} : k ∈ posF t 0 ↔ 0 < k ∧ k < t.ps.length := by
  have h0 := (treeErr_zero h).1
  rw [(posF_nodes h _ 0 (Nat.le_refl _) h0).1, (nodes_perm h).mem_iff, List.mem_range]
  omega
theorem pos_len (h : treeErr t = 0) : (posF t 0).length ≤ t.ps.length := by
  have h0 := (treeErr_zero h).1
  refine Nat.le_trans (posF_nodes h _ 0 (Nat.le_refl _) h0).2 ?_
  rw [(nodes_perm h).length_eq, List.length_range]; exact Nat.le_refl _
theorem lvS_meet (h : OfOk t names) {i : Nat} (hi : i < t.ps.length) : 0 < (lvS t names i).length := by
  have hg : GoodR (toRF (frT t) (rkT t) i) := (good_toR h.te).sub (by
    rw [subR_toR h.te]
    exact List.mem_map.2 ⟨i, (nodes_perm h.te).mem_iff.2 (List.mem_range.2 hi), rfl⟩)
  obtain ⟨x, hx⟩ := hg.meet (subR_self _)
  obtain ⟨b, hb, _⟩ := (lvS_lv h hi x).1 hx
  exact List.length_pos_of_mem hb
theorem lvS_leaf (h : OfOk t names) {i : Nat} (hi : i < t.ps.length) (hk : kidsL t.ps i = []) : lvS t names i = [fdN names (gs t.ns i)] := by
  have hz := named_size (tleaf_named h.te hi hk)
  obtain ⟨b, hb, e⟩ := h.has i hi hz
  have hf : fdN names (gs t.ns i) = (b : Int) := by rw [← e]; exact fd_of h.nd hb
  refine lv_inj h.nd (lvS_asc t names i) (by simp) (fun x hx => by have := mem_lvS.1 hx; exact ⟨this.1, this.2.1⟩) (fun x hx => by
    rw [List.mem_singleton.1 hx, hf]; omega) (lvS_lv h hi) fun y => ?_
  rw [toRF_eq (frT_arb h.te).wf hi, frT_kids, hk, List.map_nil, show (frT t).nm i = gs t.ns i from rfl, leafR_leaf hz, hf]
  constructor
  · intro hy; exact ⟨b, by simp, by rw [e]; simpa using hy⟩
  · rintro ⟨c, hc, rfl⟩
    have : c = b := by have := List.mem_singleton.1 hc; omega
    subst this; rw [e]; simp
theorem lvS_node (h : OfOk t names) {i : Nat} (hi : i < t.ps.length) (hk : kidsL t.ps i ≠ []) : sortL ((kidsL t.ps i).flatMap (lvS t names)) = lvS t names i := by
  have hmem : toRF (frT t) (rkT t) i ∈ subR (toR t) := by
    rw [subR_toR h.te]
    exact List.mem_map.2 ⟨i, (nodes_perm h.te).mem_iff.2 (List.mem_range.2 hi), rfl⟩
  have hg : GoodR (toRF (frT t) (rkT t) i) := (good_toR h.te).sub hmem
  have eT := toRF_eq (frT_arb h.te).wf hi
  rw [frT_kids] at eT
  have hz : ((frT t).nm i).size = 0 := by
    have := hg.inn _ (subR_self _)
    rw [eT] at this
    exact this (by show List.map _ _ ≠ []; simpa using hk)
  have hlf : leafR (toRF (frT t) (rkT t) i) = ((kidsL t.ps i).map (toRF (frT t) (rkT t))).flatMap leafR := by rw [eT]; exact leafR_node hz
  have kl : ∀ c ∈ kidsL t.ps i, c < t.ps.length := fun c hc => (mem_kidsL.1 hc).1
  have hbd : ∀ c, ∀ x ∈ lvS t names c, 0 ≤ x ∧ x < (names.length : Int) := fun c x hx => by have := mem_lvS.1 hx; exact ⟨this.1, this.2.1⟩
  have hnd : ((kidsL t.ps i).flatMap (lvS t names)).Nodup := by
    have hn := hg.nd
    rw [hlf, List.nodup_iff_pairwise_ne, List.pairwise_flatMap] at hn
    have h2 := List.pairwise_map.1 hn.2
    rw [List.nodup_iff_pairwise_ne, List.pairwise_flatMap]
    refine ⟨fun c _ => (lvS_asc t names c).imp fun h e => by omega, h2.imp_of_mem fun {a b} ha hb hab x hx y hy e => ?_⟩
    subst e
    obtain ⟨q, rfl⟩ := Int.eq_ofNat_of_zero_le (hbd a x hx).1
    exact hab _ ((lvS_lv h (kl a ha) _).2 ⟨q, hx, rfl⟩) _ ((lvS_lv h (kl b hb) _).2 ⟨q, hy, rfl⟩) rfl
  have hasc : (sortL ((kidsL t.ps i).flatMap (lvS t names))).Pairwise (· < ·) := by
    have h1 := sortL_pair ((kidsL t.ps i).flatMap (lvS t names))
    have h2 : (sortL ((kidsL t.ps i).flatMap (lvS t names))).Nodup := (List.mergeSort_perm _ _).nodup_iff.2 hnd
    rw [List.nodup_iff_pairwise_ne] at h2
    exact (h1.and h2).imp fun ⟨a, b⟩ => by omega
  refine lv_inj h.nd hasc (lvS_asc t names i) (fun x hx => ?_) (hbd i) (fun y => ?_) (lvS_lv h hi)
  · obtain ⟨c, _, hc⟩ := List.mem_flatMap.1 ((List.mergeSort_perm _ _).mem_iff.1 hx)
    exact hbd c x hc
  · rw [hlf, List.mem_flatMap]
    constructor
    · rintro ⟨r, hr, hy⟩
      obtain ⟨c, hc, rfl⟩ := List.mem_map.1 hr
      obtain ⟨b, hb, e⟩ := (lvS_lv h (kl c hc) y).1 hy
      exact ⟨b, (List.mergeSort_perm _ _).mem_iff.2 (List.mem_flatMap.2 ⟨c, hc, hb⟩), e⟩
    · rintro ⟨b, hb, e⟩
      obtain ⟨c, hc, hb⟩ := List.mem_flatMap.1 ((List.mergeSort_perm _ _).mem_iff.1 hb)
      exact ⟨_, List.mem_map.2 ⟨c, hc, rfl⟩, (lvS_lv h (kl c hc) y).2 ⟨b, hb, e⟩⟩
end
theorem par_lt {t : Tre} (h : treeErr t = 0) {k i : Nat} (hk : k < t.ps.length) (e : gi t.ps k = (i : Int)) : i < k := by
  have hok := (treeErr_zero h).2.2.2.1
  by_cases h0 : k = 0
  · subst h0
    have h1 := pOkB_at hok hk
    unfold okp at h1
    simp at h1
    omega
  · have := pOkB_par hok hk (by omega)
    omega
end Go.Proofs.YtcbmbhghmfehpaaGreat
