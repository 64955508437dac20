/- Children sorted: slices.SortFunc with the closure of phylotree.sorted. -/
import Derived.Test.YteegefnjnikngaaGreatQ1
import Derived.Test.YteegefnjnikngaaGreatQ8
import Derived.Sort.OwnSorted
set_option maxRecDepth 100000
namespace Go.Proofs.YteegefnjnikngaaGreat
open Go.RowKit Go.Deep Go.Sort Go.Shelf Go.Lib
section
variable {α : Type} [Inhabited α] {enc : α → Value}
theorem MQ (cur : Array Value) (ts : List α) (h : ts.length ≤ cur.size) : (putCells enc 0 ts.toArray cur).toList.take ts.length = ts.map enc := by
 apply List.ext_getElem?
 intro j
 by_cases hj : j < ts.length
 ·rw [List.getElem?_take_of_lt hj, Array.getElem?_toList]
  simp [putCells, hj, show j < cur.size by omega]
 ·rw [List.getElem?_take_eq_none (by omega), List.getElem?_eq_none (by simp; omega)]
theorem zF (w : World) (g n : Nat) (d : Array α) (os : Array Obj) : w.heap.size ≤ (sortWorld enc w g 0 n d os).heap.size := by
 simp [sortWorld, grow, putRow, mapBlock, Sort.ahead]
theorem dc {w : World} {g n : Nat} {d : Array α} {os : Array Obj} {b : Nat} (h : b ≠ g) (hl : b < w.heap.size) : (sortWorld enc w g 0 n d os).heap[b]? = w.heap[b]? := by
 unfold sortWorld
 rw [heap_grow_old _ _ (by simpa [putRow, mapBlock, Sort.ahead] using hl)]
 simp [putRow, mapBlock, Sort.ahead, Array.getElem?_modify, Ne.symm h]
theorem Ch {w : World} {g n : Nat} {d : Array α} {os : Array Obj} {cur : Array Value} {e : TypeId} {fr : Nat × Nat} (hb : w.heap[g]? = some (.cells cur e fr)) :
  (sortWorld enc w g 0 n d os).heap[g]? = some (.cells (putCells enc 0 d cur) e fr) := by
 have hg : g < w.heap.size := (Array.getElem?_eq_some_iff.1 hb).1
 unfold sortWorld
 rw [heap_grow_old _ _ (by simpa [putRow, mapBlock, Sort.ahead] using hg)]
 simp [putRow, mapBlock, Sort.ahead, Array.getElem?_modify, hb, onCells]
end
theorem az.sorted {α : Type} [Inhabited α] {enc : α → Value} {base g cap n : Nat} {e : TypeId} {w : World} {os : Array Obj} {vs : List Value} {ts : List α} (h : az base e w (.slice (some ⟨g, 0, none⟩) vs.length cap) vs) (hl : ts.length = vs.length) :
  az base e (sortWorld enc w g 0 n ts.toArray os) (.slice (some ⟨g, 0, none⟩) vs.length cap) (ts.map enc) := by
 obtain ⟨_, ⟨h1, _⟩ | ⟨g', cap', cur, hs, hg, hc, hn, hcm, hcs, ht⟩⟩ := h
 ·cases h1
 ·injection hs with hs1 hs2 hs3
  injection hs1 with hs1
  injection hs1 with hs1
  subst hs1; subst hs3
  refine ⟨by simp, .inr ⟨g, cap, putCells enc 0 ts.toArray cur, by simp [hl], hg, Ch hc, by simp [hl]; exact hn, hcm, by simpa [putCells] using hcs, ?_⟩⟩
  rw [List.length_map, Nat.mul_one]
  exact MQ cur ts (by omega)
theorem MR (f : Nat → ByteArray) {L : List Nat} : SWO (ltOf fun (x y : {k // k ∈ L}) => bK (f x.1) (f y.1)) where
 irrefl x := by simp [ltOf, AD]
 trans x y z h1 h2 := by
  simp only [ltOf, decide_eq_true_eq] at *
  exact nN h1 h2
 ntrans x y z h1 h2 := by
  simp only [ltOf, decide_eq_false_iff_not] at *
  intro h3
  by_cases e : bK (f x.1) (f y.1) = 0
  ·rw [e9 e] at h3; exact h2 h3
  ·have h4 : bK (f y.1) (f x.1) < 0 := by have := eZ (f x.1) (f y.1); omega
   exact h2 (nN h4 h3)
def SF (n base : Nat) (A : Nat → Nat) (kv : Nat → Value) (F : aL) (w : World) (i : Nat) (l : List Nat) (e : Ending) (w' : World) : Prop :=
 e = .returned (.tuple #[]) ∧ aR base n A kv { F with kids := upd F.kids i l } w' ∧ iZ n A kv w w'
theorem aR.plain {base n : Nat} {A : Nat → Nat} {kv : Nat → Value} {F : aL} {w : World} (h : aR base n A kv F w) {i : Nat} (hi : i < n) : Plain w (A i) := ⟨_, _, h.node i hi, by simp⟩
theorem Plain.of_block {w w' : World} {b : Nat} (h : Plain w b) (e : w'.heap[b]? = w.heap[b]?) : Plain w' b := by
 obtain ⟨c, t, h1, h2⟩ := h
 exact ⟨c, t, by rw [e]; exact h1, h2⟩
theorem gQ.of_block {w w' : World} {b : Nat} {l : List (Option Nat × Value)} (h : gQ w b l) (e : w'.heap[b]? = w.heap[b]?) : gQ w' b l := by
 obtain ⟨es, c, h1, h2⟩ := h
 exact ⟨es, c, by rw [e]; exact h1, h2⟩
theorem gQ.lt {w : World} {b : Nat} {l : List (Option Nat × Value)} (h : gQ w b l) : b < w.heap.size := by
 obtain ⟨es, c, h1, h2⟩ := h
 exact (Array.getElem?_eq_some_iff.1 h1).1
set_option maxHeartbeats 800000 in
theorem FH {base n : Nat} {A : Nat → Nat} {kv : Nat → Value} {F : aL} {w : World} (hF : aR base n A kv F w) {i g cap : Nat} (hi : i < n) (hv : kv i = .slice (some ⟨g, 0, none⟩) (F.kids i).length cap) (h0 : F.kids i ≠ []) (hlen : (F.kids i).length ≤ 1000000)
  (f : Nat → ByteArray) (hs : Sep f (F.kids i)) {bx m0 : Nat} {l : List (Option Nat × Value)} (jS : w.cell? ⟨bx, 0, none⟩ = some (.map (some m0))) (hm : gQ w m0 l) (hgb : g ≠ bx) (hgm : g ≠ m0)
  (hl : ∀ k ∈ F.kids i, l.lookup (some (A k)) = some (.string (f k))) (hok : ∀ z ∈ l, ∃ k, k < n ∧ z.1 = some (A k)) :
  Calls Tryz.prog 221 #[kv i, .func (.func 222) #[] #[.pointer (some ⟨bx, 0, none⟩)]] w (SF n base A kv F w i (bT f (F.kids i))) := by
 obtain ⟨k0, qd⟩ : ∃ k, k ∈ F.kids i := List.exists_mem_of_ne_nil _ h0
 letI : Inhabited {k // k ∈ F.kids i} := ⟨⟨k0, qd⟩⟩
 have hown := hF.own i hi
 rw [hv] at hown
 have hgo : (kv i).ownBlock = some g := by rw [hv]; rfl
 have wD := (hF.eT hi hgo).2
 have J9 : ∀ j, j < n → A j ≠ g := fun j hj e => hF.apart i j hi hj (by rw [hgo, e])
 have eg : ∀ args w, (callFunc 222 args).run Tryz.prog w = .ok (.enter 222 args) w := enters_of Tryz.func222 (by kernel_rfl) rfl
 have hsize : ((F.kids i).attach.toArray).size = (F.kids i).length := by simp
 have Ie : ((F.kids i).map (aT A)).length = (F.kids i).length := by simp
 have hH : Holds (fun (x : {k // k ∈ F.kids i}) => aT A x.1) w g 0 (F.kids i).attach.toArray := by
  intro j hj
  rw [hsize] at hj
  obtain ⟨p, c, e, _, H⟩ := hown.xk.open
  injection e with e1
  subst e1
  obtain ⟨b, off, e, hc⟩ := H j (by rw [Ie]; exact hj)
  injection e with e
  injection e with e1 e2
  subst e1; subst e2
  refine ⟨?_, ?_⟩
  ·rw [hc, getElem!_pos _ _ (by simpa using hj)]; simp [hj]
  ·obtain ⟨_, ⟨h1, _⟩ | ⟨g', cap', cur, hs', _, hc', _⟩⟩ := hown
   ·cases h1
   ·injection hs' with hs1
    injection hs1 with hs1
    injection hs1 with hs1
    subst hs1
    simp [World.frozen?, hc']
 have hcmp : CmpLays1 Tryz.prog 222 #[.pointer (some ⟨bx, 0, none⟩)] (fun (x : {k // k ∈ F.kids i}) => aT A x.1) (fun x y => bK (f x.1) (f y.1)) g 0 (F.kids i).attach.toArray.size w := by
  intro m os dk hdk x y
  have hx := hF.kid i hi x.1 x.2
  have hy := hF.kid i hi y.1 y.2
  have hbl : bx < w.heap.size := World.block_lt_of_cell? w _ jS
  have h1 : (sortWorld (fun (x : {k // k ∈ F.kids i}) => aT A x.1) w g 0 m dk os).cell? ⟨bx, 0, none⟩ = some (.map (some m0)) := by
   rw [World.cell?_of_block (a := ⟨bx, 0, none⟩) (dc (Ne.symm hgb) hbl)]; exact jS
  refine (J5 _ bx m0 (A x.1) (A y.1) l (f x.1) (f y.1) h1 (hm.of_block (dc (Ne.symm hgm) hm.lt)) (fun z hz => ?_)
   ((hF.plain hx).of_block (dc (J9 _ hx) (hF.lt hx))) ((hF.plain hy).of_block (dc (J9 _ hy) (hF.lt hy))) (hl x.1 x.2) (hl y.1 y.2)).mono fun e w' ⟨he, hw⟩ => ⟨he, 0, #[], by rw [← hw, grow_empty]; rfl⟩
  obtain ⟨k, hk, e⟩ := hok z hz
  rw [e]
  exact (hF.plain hk).of_block (dc (J9 _ hk) (hF.lt hk))
 have hcon := Any.slices_SortFunc_total Tryz.sortNode (fun (x : {k // k ∈ F.kids i}) => aT A x.1) (fun _ => rfl) (fun x y => bK (f x.1) (f y.1)) (MR f) 222 #[.pointer (some ⟨bx, 0, none⟩)] g 0 cap (F.kids i).attach.toArray w eg hcmp hH wD (by rw [hsize]; omega)
  (fun x y h1 h2 => by
   simp only [ltOf, decide_eq_false_iff_not] at h1 h2
   have h3 : bK (f x.1) (f y.1) = 0 := by have := eZ (f x.1) (f y.1); omega
   exact Subtype.ext (hs x.1 x.2 y.1 y.2 (e9 h3)))
 rw [hsize, ← hv] at hcon
 refine hcon.mono fun e w' ⟨he, m, os, hw⟩ => ⟨he, ?_, ?_⟩
 ·have hsrt : (((F.kids i).attach.toArray.toList.mergeSort fun x y => !(ltOf fun (x y : {k // k ∈ F.kids i}) => bK (f x.1) (f y.1)) y x).map fun x => x.1) = bT f (F.kids i) := by
   have h := List.map_mergeSort (f := fun (x : {k // k ∈ F.kids i}) => x.1) (r := fun x y => !(ltOf fun (x y : {k // k ∈ F.kids i}) => bK (f x.1) (f y.1)) y x) (s := kH f) (l := (F.kids i).attach) (fun a _ b _ => by
    simp only [ltOf, kH]
    have := eZ (f a.1) (f b.1)
    by_cases h : bK (f a.1) (f b.1) ≤ 0
    ·rw [decide_eq_true h]; simp; omega
    ·rw [decide_eq_false h]; simp; omega)
   rw [List.toList_toArray]
   rw [h, List.attach_map_subtype_val]
   rfl
  have ho : az base 124 w' (kv i) ((bT f (F.kids i)).map (aT A)) := by
   rw [hv, hw, ← hsrt, List.map_map]
   have h := az.sorted (enc := fun (x : {k // k ∈ F.kids i}) => aT A x.1) (n := m) (os := os) (ts := ((F.kids i).attach.toArray.toList.mergeSort fun x y => !(ltOf fun (x y : {k // k ∈ F.kids i}) => bK (f x.1) (f y.1)) y x)) (vs := (F.kids i).map (aT A)) (by rw [Ie]; exact hown) (by simp)
   rw [Ie] at h
   exact h
  have hsame : ∀ b, b ≠ g → b < w.heap.size → w'.heap[b]? = w.heap[b]? := fun b hb hbl => by rw [hw]; exact dc hb hbl
  have h2 := hF.put (w' := w') (k := i) (v := kv i) (ks := bT f (F.kids i)) hi (fun j hj _ => hsame _ (J9 j hj) (hF.lt hj)) (by rw [hsame _ (J9 i hi) (hF.lt hi)]; exact hF.node i hi) ho
   (fun j b hj hji hb => hsame b (fun e => hji (hF.alone j i b hj hi hb (by rw [hgo, e]))) (hF.eT hj hb).2) (fun b hb => .inl hb) (fun j hj => hF.kid i hi j ((cU _ _).mem_iff.1 hj))
  have hkv : upd kv i (kv i) = kv := by
   funext j; by_cases e : j = i
   ·subst e; exact upd_same _ _ _
   ·exact upd_ne _ _ e
  rw [hkv] at h2
  exact h2
 ·rw [hw]
  exact ⟨rfl, rfl, rfl, zF _ _ _ _ _, fun b hb _ h2 => dc (fun e => h2 i hi (by rw [hgo, e])) hb⟩
end Go.Proofs.YteegefnjnikngaaGreat
