/- A region that draws its order: S is to hold behind an operation only where another one is .. -/
import Derived.OrdersHeld
import Derived.Deep.RegionHeld
import Derived.Test.YthgabkgmkolobaaGreatQ3
import Derived.StillTailTactics
import Derived.Test.YthgabkgmkolobaaGreatQ6
import Derived.Test.YthgabkgmkolobaaGreatQ1
import Derived.Sort.OwnSorted
import Derived.Test.YthgabkgmkolobaaGreatQ7
set_option maxRecDepth 100000
namespace Go.Proofs.YthgabkgmkolobaaGreat
section
open Go.RowKit Go.Deep
section
variable {P : Program} {ops : Array Oper} {Q : Exit → Act → World → Prop} {md : Region.Mode} {S : World → Prop} {t : Nat}
def iM (t : Nat) (l : Array Bool) : Prop := ∃ m, m < t ∧ l.getD m true = false
def waitsB (t : Nat) (md : Region.Mode) (ops : Array Oper) (l : Array Bool) (i : Nat) : Bool := (List.range t).any fun m => !l.getD m true && (match ops[m]? with | some o => o.after.any fun e => Region.binds md e && e.on == i | none => false)
def af (P : Program) (md : Region.Mode) (ops : Array Oper) (Q : Exit → Act → World → Prop) (S : World → Prop) (t : Nat) : Nat → Array Bool → Act → World → Prop
 | 0, l, a, w => Region.ready md ops l = [] ∧ Q .normal a w
 | n + 1, l, a, w => (Region.ready md ops l = [] → Q .normal a w) ∧
  ∀ i ∈ Region.ready md ops l, wpOp P ops Q i (fun a' w' => (iM t (l.setIfInBounds i true) → S w') ∧ af P md ops Q S t n (l.setIfInBounds i true) a' w') a w
theorem af.any : ∀ (n : Nat) (l : Array Bool) (a : Act) (w : World), af P md ops Q S t n l a w → wpAny P md ops Q n l a w
 | 0, _, _, _, h => h
 | n + 1, _, _, _, h => ⟨h.1, fun i hi => wpOp_mono (fun a' w' h' => af.any n _ a' w' h'.2) (h.2 i hi)⟩
theorem af.first {i : Nat} {oi : Oper} {v : Value} (hi : ops[i]? = some oi) (hsel : ∀ (j : Nat) (o : Oper) cs b, ops[j]? = some o → o.op ≠ .select cs b)
  (hQ : ∀ c a w, Q (.panic c) (a.put oi.dst v) w → Q (.panic c) a w) : ∀ (n : Nat) (l : Array Bool) (a : Act) (w : World),
   (∀ j oj, ops[j]? = some oj → j ≠ i → l.getD j true = false → (∀ e ∈ oj.after, Region.binds md e = true → e.on ≠ i) → oi.apart ops oj = true) →
   i ∈ Region.ready md ops l → waitsB t md ops l i = true → YieldsIf P ops S oi v a → S w → af P md ops Q S t n (l.setIfInBounds i true) (a.put oi.dst v) w → af P md ops Q S t (n + 1) l a w := by
 intro n
 induction n with
 | zero =>
  intro l a w _ hr _ hy hS H
  refine ⟨fun h => absurd hr (by rw [h]; simp), fun j hj => ?_⟩
  by_cases hji : j = i
  ·subst hji; exact hy.wpOp hi hS ⟨fun _ => hS, H⟩
  ·exact absurd (ready_mono hj hji) (by rw [H.1]; simp)
 | succ n ih =>
  intro l a w hfree hr hwt hy hS H
  refine ⟨fun h => absurd hr (by rw [h]; simp), fun j hj => ?_⟩
  by_cases hji : j = i
  ·subst hji; exact hy.wpOp hi hS ⟨fun _ => hS, H⟩
  ·have hun := (mem_ready.1 hr).1
   obtain ⟨rO, oj, kO, hall⟩ := mem_ready.1 hj
   have hnot : ∀ e ∈ oj.after, Region.binds md e = true → e.on ≠ i := fun e he hb heq => by
    have h1 := hall e he hb
    rw [heq] at h1
    by_cases h' : i < l.size
    ·simp [h'] at hun h1; rw [hun] at h1; cases h1
    ·simp [h'] at h1
   have h2 := wpOp_putIf kO (hfree j oj kO hji rO hnot) (fun cs b => hsel i oi cs b hi) (fun cs b => hsel j oj cs b kO) hQ hy (H.2 j (ready_mono hj hji))
   have hir : i ∈ Region.ready md ops (l.setIfInBounds j true) := ready_mono hr (Ne.symm hji)
   refine wpOp_mono (fun a' w' h3 => ?_) h2
   have rP : ∀ k ok, ops[k]? = some ok → k ≠ i → (l.setIfInBounds j true).getD k true = false → (∀ e ∈ ok.after, Region.binds md e = true → e.on ≠ i) → oi.apart ops ok = true := fun k ok hk hki xT hno => by
    refine hfree k ok hk hki ?_ hno
    by_cases hjk : j = k
    ·rw [← hjk]; exact rO
    ·rw [getD_set_ne true hjk] at xT; exact xT
   have hcm : (l.setIfInBounds i true).setIfInBounds j true = (l.setIfInBounds j true).setIfInBounds i true := Array.setIfInBounds_comm _ _ (Ne.symm hji)
   obtain ⟨m, hml, hm⟩ := List.any_eq_true.1 hwt
   have hml := List.mem_range.1 hml
   simp only [Bool.and_eq_true, Bool.not_eq_true'] at hm
   obtain ⟨D2, hm2⟩ := hm
   obtain ⟨om, hmo⟩ : ∃ om, ops[m]? = some om := by
    cases h : ops[m]? with
    | none => rw [h] at hm2; cases hm2
    | some o => exact ⟨o, rfl⟩
   rw [hmo] at hm2
   obtain ⟨x, hx, e, BC⟩ := (by simpa using Array.any_eq_true.1 hm2 : ∃ x, ∃ (hx : x < om.after.size), Region.binds md om.after[x] = true ∧ om.after[x].on = i)
   have hmj : m ≠ j := fun e2 => by
    subst e2
    rw [hmo] at kO
    injection kO with kO
    refine hnot om.after[x] ?_ e BC
    rw [← kO]; exact Array.getElem_mem hx
   have hmi : m ≠ i := fun e2 => by
    subst e2
    obtain ⟨_, o3, xU, h4⟩ := mem_ready.1 hr
    rw [hmo] at xU
    injection xU with xU
    have h5 := h4 om.after[x] (by rw [← xU]; exact Array.getElem_mem hx) e
    rw [BC] at h5
    by_cases h' : m < l.size
    ·simp [h'] at hun h5; rw [hun] at h5; cases h5
    ·simp [h'] at h5
   have Ol : S w' := h3.2.1 ⟨m, hml, by rw [getD_set_ne true (Ne.symm hmj), getD_set_ne true (Ne.symm hmi)]; exact D2⟩
   have Rq : waitsB t md ops (l.setIfInBounds j true) i = true := List.any_eq_true.2 ⟨m, List.mem_range.2 hml, by
    rw [getD_set_ne true (Ne.symm hmj), D2, hmo]; simpa using hm2⟩
   exact ⟨fun _ => Ol, ih _ a' w' rP hir Rq h3.1 Ol (by rw [← hcm]; exact h3.2.2)⟩
theorem af.Mk {i : Nat} {oi : Oper} {v : Value} (hti : t ≤ i) (hi : ops[i]? = some oi) (hsel : ∀ (j : Nat) (o : Oper) cs b, ops[j]? = some o → o.op ≠ .select cs b)
  (hQ : ∀ c a w, Q (.panic c) (a.put oi.dst v) w → Q (.panic c) a w) : ∀ (n : Nat) (l : Array Bool) (a : Act) (w : World),
   (∀ j oj, ops[j]? = some oj → j ≠ i → l.getD j true = false → (∀ e ∈ oj.after, Region.binds md e = true → e.on ≠ i) → oi.apart ops oj = true) →
   i ∈ Region.ready md ops l → YieldsIf P ops (fun _ => True) oi v a → (iM t (l.setIfInBounds i true) → S w) → af P md ops Q S t n (l.setIfInBounds i true) (a.put oi.dst v) w → af P md ops Q S t (n + 1) l a w := by
 intro n
 induction n with
 | zero =>
  intro l a w _ hr hy hS H
  refine ⟨fun h => absurd hr (by rw [h]; simp), fun j hj => ?_⟩
  by_cases hji : j = i
  ·subst hji; exact hy.wpOp hi trivial ⟨hS, H⟩
  ·exact absurd (ready_mono hj hji) (by rw [H.1]; simp)
 | succ n ih =>
  intro l a w hfree hr hy hS H
  refine ⟨fun h => absurd hr (by rw [h]; simp), fun j hj => ?_⟩
  by_cases hji : j = i
  ·subst hji; exact hy.wpOp hi trivial ⟨hS, H⟩
  ·have hun := (mem_ready.1 hr).1
   obtain ⟨rO, oj, kO, hall⟩ := mem_ready.1 hj
   have hnot : ∀ e ∈ oj.after, Region.binds md e = true → e.on ≠ i := fun e he hb heq => by
    have h1 := hall e he hb
    rw [heq] at h1
    by_cases h' : i < l.size
    ·simp [h'] at hun h1; rw [hun] at h1; cases h1
    ·simp [h'] at h1
   have h2 := wpOp_putIf kO (hfree j oj kO hji rO hnot) (fun cs b => hsel i oi cs b hi) (fun cs b => hsel j oj cs b kO) hQ hy (H.2 j (ready_mono hj hji))
   have hir : i ∈ Region.ready md ops (l.setIfInBounds j true) := ready_mono hr (Ne.symm hji)
   refine wpOp_mono (fun a' w' h3 => ?_) h2
   have rP : ∀ k ok, ops[k]? = some ok → k ≠ i → (l.setIfInBounds j true).getD k true = false → (∀ e ∈ ok.after, Region.binds md e = true → e.on ≠ i) → oi.apart ops ok = true := fun k ok hk hki xT hno => by
    refine hfree k ok hk hki ?_ hno
    by_cases hjk : j = k
    ·rw [← hjk]; exact rO
    ·rw [getD_set_ne true hjk] at xT; exact xT
   have hcm : (l.setIfInBounds i true).setIfInBounds j true = (l.setIfInBounds j true).setIfInBounds i true := Array.setIfInBounds_comm _ _ (Ne.symm hji)
   have hmo : iM t (l.setIfInBounds j true) → S w' := fun ⟨m, hm, hml⟩ => h3.2.1 ⟨m, hm, by
    rw [hcm, getD_set_ne true (by omega)]; exact hml⟩
   refine ⟨hmo, ih _ a' w' rP hir h3.1 (fun ⟨m, hm, hml⟩ => hmo ⟨m, hm, ?_⟩) (by rw [← hcm]; exact h3.2.2)⟩
   rw [getD_set_ne true (by omega)] at hml; exact hml
theorem af.free {i : Nat} {oi : Oper} {v : Value} {n : Nat} {l : Array Bool} {a : Act} {w : World} (kB : ops.toList[i]? = some oi)
  (hc : (decide (t ≤ i) && Region.noSelect ops && Region.free md ops l i && (Region.ready md ops l).contains i) = true)
  (hQ : ∀ c a w, Q (.panic c) (a.put oi.dst v) w → Q (.panic c) a w) (hg : Region.wanted oi (yielded ops a.tmps) = true) (hy : ∀ w, (execOp a.eval oi).run P w = .ok (.value v) w) (hS : iM t (l.setIfInBounds i true) → S w)
  (h : af P md ops Q S t n (l.setIfInBounds i true) (a.put oi.dst v) w) : af P md ops Q S t (n + 1) l a w := by
 have hi : ops[i]? = some oi := by rw [← Array.getElem?_toList]; exact kB
 simp only [Bool.and_eq_true, decide_eq_true_eq] at hc
 obtain ⟨⟨⟨h0, h1⟩, h2⟩, h3⟩ := hc
 exact af.Mk h0 hi (Region.noSelect_spec h1) hQ n l a w (Region.free_spec hi h2) (by simpa using h3) (.inl ⟨hg, fun w _ => hy w⟩) hS h
theorem af.take {i : Nat} {oi : Oper} {v : Value} {n : Nat} {l : Array Bool} {a : Act} {w : World} (kB : ops.toList[i]? = some oi)
  (hc : (Region.noSelect ops && Region.free md ops l i && (Region.ready md ops l).contains i && waitsB t md ops l i) = true)
  (hQ : ∀ c a w, Q (.panic c) (a.put oi.dst v) w → Q (.panic c) a w) (hg : Region.wanted oi (yielded ops a.tmps) = true) (hy : ∀ w, S w → (execOp a.eval oi).run P w = .ok (.value v) w) (hS : S w)
  (h : af P md ops Q S t n (l.setIfInBounds i true) (a.put oi.dst v) w) : af P md ops Q S t (n + 1) l a w := by
 have hi : ops[i]? = some oi := by rw [← Array.getElem?_toList]; exact kB
 simp only [Bool.and_eq_true] at hc
 obtain ⟨⟨⟨h1, h2⟩, h3⟩, h4⟩ := hc
 exact af.first hi (Region.noSelect_spec h1) hQ n l a w (Region.free_spec hi h2) (by simpa using h3) h4 (.inl ⟨hg, hy⟩) hS h
theorem af.step {i : Nat} {oi : Oper} {n : Nat} {l : Array Bool} {a : Act} {w : World} (kB : ops.toList[i]? = some oi) (hr : Region.ready md ops l = [i])
  (h : ∀ K' : Act → World → Prop, Shut (∀ a w, (iM t (l.setIfInBounds i true) → S w) → ((iM t (l.setIfInBounds i true) → S w) → af P md ops Q S t n (l.setIfInBounds i true) a w) → K' a w) → if Region.wanted oi (yielded ops a.tmps) = true then Oper.wp P oi a w K' Q else K' (a.put oi.dst undef) w) :
  af P md ops Q S t (n + 1) l a w :=
 ⟨fun h0 => absurd (h0.symm.trans hr) (by simp), fun j hj => by
  rw [hr] at hj
  obtain rfl : j = i := by simpa using hj
  exact wpOp_step (by rw [← Array.getElem?_toList]; exact kB) fun K' hK => h K' fun a w hS hW => hK a w ⟨hS, hW hS⟩⟩
theorem af.zg {i i2 : Nat} {oi zP : Oper} {n : Nat} {l : Array Bool} {a : Act} {w : World} (kB : ops.toList[i]? = some oi) (Rs : ops.toList[i2]? = some zP) (hr : Region.ready md ops l = [i, i2])
  (h : ∀ K' : Act → World → Prop, Shut (∀ a w, (iM t (l.setIfInBounds i true) → S w) → ((iM t (l.setIfInBounds i true) → S w) → af P md ops Q S t n (l.setIfInBounds i true) a w) → K' a w) → if Region.wanted oi (yielded ops a.tmps) = true then Oper.wp P oi a w K' Q else K' (a.put oi.dst undef) w)
  (h2 : ∀ K' : Act → World → Prop, Shut (∀ a w, (iM t (l.setIfInBounds i2 true) → S w) → ((iM t (l.setIfInBounds i2 true) → S w) → af P md ops Q S t n (l.setIfInBounds i2 true) a w) → K' a w) → if Region.wanted zP (yielded ops a.tmps) = true then Oper.wp P zP a w K' Q else K' (a.put zP.dst undef) w) :
  af P md ops Q S t (n + 1) l a w :=
 ⟨fun h0 => absurd (h0.symm.trans hr) (by simp), fun j hj => by
  rw [hr] at hj
  rcases List.mem_cons.1 hj with rfl | hj
  ·exact wpOp_step (by rw [← Array.getElem?_toList]; exact kB) fun K' hK => h K' fun a w hS hW => hK a w ⟨hS, hW hS⟩
  ·obtain rfl : j = i2 := by simpa using hj
   exact wpOp_step (by rw [← Array.getElem?_toList]; exact Rs) fun K' hK => h2 K' fun a w hS hW => hK a w ⟨hS, hW hS⟩⟩
theorem af.done {l : Array Bool} {a : Act} {w : World} {n : Nat} (hr : Region.ready md ops l = []) (h : Q .normal a w) : af P md ops Q S t n l a w := by
 cases n with
 | zero => exact ⟨hr, h⟩
 | succ n => exact ⟨fun _ => h, fun j hj => (by rw [hr] at hj; cases hj)⟩
theorem aJ {t : Nat} {l : Array Bool} (h : ((List.range t).all fun m => l.getD m true) = true) {p : Prop} : iM t l → p := fun ⟨m, hm, hl⟩ => by
 have := List.all_eq_true.1 h m (List.mem_range.2 hm)
 rw [hl] at this; cases this
theorem dM {id : Nat} {a : Act} {w : World} (hm : P.follows .mixedOrders = true) (t : Nat) (S : World → Prop) (hS : S w.drew)
  (h : S w.drew → af P .any ops Q S t ops.size (Array.replicate ops.size false) a w.drew) : (Code.region id ops true).wp P Q a w := wp_region_any hm (af.any _ _ _ _ (h hS))
end
end
section
open Go.RowKit Go.Deep
theorem Rt (S : Nat → Prop) (w : World) : aU S w (.slice none 0 0) [] := ⟨fun _ => undef, ⟨none, 0, rfl, Nat.le_refl _, .inl rfl⟩, fun _ hk => absurd hk (Nat.not_lt_zero _)⟩
end
section
open Go.RowKit Go.Deep Go.Sort Go.Shelf Go.Lib
section
variable {α : Type} [Inhabited α] {enc : α → Value}
theorem Ru (cur : Array Value) (ts : List α) (h : ts.length ≤ cur.size) : (putCells enc 0 ts.toArray cur).toList.take ts.length = ts.map enc := by
 apply List.ext_getElem?
 intro j
 by_cases hj : j < ts.length
 ·rw [List.getElem?_take_of_lt hj, Array.getElem?_toList]
  simp [putCells, hj, show j < cur.size by omega]
 ·rw [List.getElem?_take_eq_none (by omega), List.getElem?_eq_none (by simp; omega)]
theorem CR (w : World) (g n : Nat) (d : Array α) (os : Array Obj) : w.heap.size ≤ (sortWorld enc w g 0 n d os).heap.size := by
 simp [sortWorld, grow, putRow, mapBlock, Sort.ahead]
theorem dX {w : World} {g n : Nat} {d : Array α} {os : Array Obj} {b : Nat} (h : b ≠ g) (hl : b < w.heap.size) : (sortWorld enc w g 0 n d os).heap[b]? = w.heap[b]? := by
 unfold sortWorld
 rw [heap_grow_old _ _ (by simpa [putRow, mapBlock, Sort.ahead] using hl)]
 simp [putRow, mapBlock, Sort.ahead, Array.getElem?_modify, Ne.symm h]
theorem Fy {w : World} {g n : Nat} {d : Array α} {os : Array Obj} {cur : Array Value} {e : TypeId} {fr : Nat × Nat} (hb : w.heap[g]? = some (.cells cur e fr)) :
  (sortWorld enc w g 0 n d os).heap[g]? = some (.cells (putCells enc 0 d cur) e fr) := by
 have hg : g < w.heap.size := (Array.getElem?_eq_some_iff.1 hb).1
 unfold sortWorld
 rw [heap_grow_old _ _ (by simpa [putRow, mapBlock, Sort.ahead] using hg)]
 simp [putRow, mapBlock, Sort.ahead, Array.getElem?_modify, hb, onCells]
end
theorem aC.sorted {α : Type} [Inhabited α] {enc : α → Value} {base g cap n : Nat} {e : TypeId} {w : World} {os : Array Obj} {vs : List Value} {ts : List α} (h : aC base e w (.slice (some ⟨g, 0, none⟩) vs.length cap) vs) (hl : ts.length = vs.length) :
  aC base e (sortWorld enc w g 0 n ts.toArray os) (.slice (some ⟨g, 0, none⟩) vs.length cap) (ts.map enc) := by
 obtain ⟨_, ⟨h1, _⟩ | ⟨g', cap', cur, hs, hg, hc, hn, hcm, hcs, ht⟩⟩ := h
 ·cases h1
 ·injection hs with hs1 hs2 hs3
  injection hs1 with hs1
  injection hs1 with hs1
  subst hs1; subst hs3
  refine ⟨by simp, .inr ⟨g, cap, putCells enc 0 ts.toArray cur, by simp [hl], hg, Fy hc, by simp [hl]; exact hn, hcm, by simpa [putCells] using hcs, ?_⟩⟩
  rw [List.length_map, Nat.mul_one]
  exact Ru cur ts (by omega)
theorem Rv (f : Nat → ByteArray) {L : List Nat} : SWO (ltOf fun (x y : {k // k ∈ L}) => b9 (f x.1) (f y.1)) where
 irrefl x := by simp [ltOf, DY]
 trans x y z h1 h2 := by
  simp only [ltOf, decide_eq_true_eq] at *
  exact qK h1 h2
 ntrans x y z h1 h2 := by
  simp only [ltOf, decide_eq_false_iff_not] at *
  intro h3
  by_cases e : b9 (f x.1) (f y.1) = 0
  ·rw [gC e] at h3; exact h2 h3
  ·have h4 : b9 (f y.1) (f x.1) < 0 := by have := gA (f x.1) (f y.1); omega
   exact h2 (qK h4 h3)
def XL (n base : Nat) (A : Nat → Nat) (kv : Nat → Value) (F : aT) (w : World) (i : Nat) (l : List Nat) (e : Ending) (w' : World) : Prop :=
 e = .returned (.tuple #[]) ∧ bq base n A kv { F with kids := upd F.kids i l } w' ∧ kA n A kv w w'
theorem bq.plain {base n : Nat} {A : Nat → Nat} {kv : Nat → Value} {F : aT} {w : World} (h : bq base n A kv F w) {i : Nat} (hi : i < n) : Plain w (A i) := ⟨_, _, h.node i hi, by simp⟩
theorem Plain.of_block {w w' : World} {b : Nat} (h : Plain w b) (e : w'.heap[b]? = w.heap[b]?) : Plain w' b := by
 obtain ⟨c, t, h1, h2⟩ := h
 exact ⟨c, t, by rw [e]; exact h1, h2⟩
theorem je.of_block {w w' : World} {b : Nat} {l : List (Option Nat × Value)} (h : je w b l) (e : w'.heap[b]? = w.heap[b]?) : je w' b l := by
 obtain ⟨es, c, h1, h2⟩ := h
 exact ⟨es, c, by rw [e]; exact h1, h2⟩
theorem je.lt {w : World} {b : Nat} {l : List (Option Nat × Value)} (h : je w b l) : b < w.heap.size := by
 obtain ⟨es, c, h1, h2⟩ := h
 exact (Array.getElem?_eq_some_iff.1 h1).1
set_option maxHeartbeats 800000 in
theorem J6 {base n : Nat} {A : Nat → Nat} {kv : Nat → Value} {F : aT} {w : World} (hF : bq base n A kv F w) {i g cap : Nat} (hi : i < n) (hv : kv i = .slice (some ⟨g, 0, none⟩) (F.kids i).length cap) (h0 : F.kids i ≠ []) (hlen : (F.kids i).length ≤ 1000000)
  (f : Nat → ByteArray) (hs : Sep f (F.kids i)) {bx m0 : Nat} {l : List (Option Nat × Value)} (gL : w.cell? ⟨bx, 0, none⟩ = some (.map (some m0))) (hm : je w m0 l) (hgb : g ≠ bx) (hgm : g ≠ m0)
  (hl : ∀ k ∈ F.kids i, l.lookup (some (A k)) = some (.string (f k))) (hok : ∀ z ∈ l, ∃ k, k < n ∧ z.1 = some (A k)) :
  Calls Tryz.prog 240 #[kv i, .func (.func 241) #[] #[.pointer (some ⟨bx, 0, none⟩)]] w (XL n base A kv F w i (cA f (F.kids i))) := by
 obtain ⟨k0, s5⟩ : ∃ k, k ∈ F.kids i := List.exists_mem_of_ne_nil _ h0
 letI : Inhabited {k // k ∈ F.kids i} := ⟨⟨k0, s5⟩⟩
 have hown := hF.own i hi
 rw [hv] at hown
 have hgo : (kv i).ownBlock = some g := by rw [hv]; rfl
 have zM := (hF.gu hi hgo).2
 have Om : ∀ j, j < n → A j ≠ g := fun j hj e => hF.apart i j hi hj (by rw [hgo, e])
 have eg : ∀ args w, (callFunc 241 args).run Tryz.prog w = .ok (.enter 241 args) w := enters_of Tryz.func241 (by kernel_rfl) rfl
 have hsize : ((F.kids i).attach.toArray).size = (F.kids i).length := by simp
 have Ml : ((F.kids i).map (bu A)).length = (F.kids i).length := by simp
 have hH : Holds (fun (x : {k // k ∈ F.kids i}) => bu A x.1) w g 0 (F.kids i).attach.toArray := by
  intro j hj
  rw [hsize] at hj
  obtain ⟨p, c, e, _, H⟩ := hown.Au.open
  injection e with e1
  subst e1
  obtain ⟨b, off, e, hc⟩ := H j (by rw [Ml]; exact hj)
  injection e with e
  injection e with e1 e2
  subst e1; subst e2
  refine ⟨?_, ?_⟩
  ·rw [hc, getElem!_pos _ _ (by simpa using hj)]; simp [hj]
  ·obtain ⟨_, ⟨h1, _⟩ | ⟨g', cap', cur, hs', _, hc', _⟩⟩ := hown
   ·cases h1
   ·injection hs' with hs1
    injection hs1 with hs1
    injection hs1 with hs1
    subst hs1
    simp [World.frozen?, hc']
 have hcmp : CmpLays1 Tryz.prog 241 #[.pointer (some ⟨bx, 0, none⟩)] (fun (x : {k // k ∈ F.kids i}) => bu A x.1) (fun x y => b9 (f x.1) (f y.1)) g 0 (F.kids i).attach.toArray.size w := by
  intro m os dk hdk x y
  have hx := hF.kid i hi x.1 x.2
  have hy := hF.kid i hi y.1 y.2
  have hbl : bx < w.heap.size := World.block_lt_of_cell? w _ gL
  have h1 : (sortWorld (fun (x : {k // k ∈ F.kids i}) => bu A x.1) w g 0 m dk os).cell? ⟨bx, 0, none⟩ = some (.map (some m0)) := by
   rw [World.cell?_of_block (a := ⟨bx, 0, none⟩) (dX (Ne.symm hgb) hbl)]; exact gL
  refine (Oj _ bx m0 (A x.1) (A y.1) l (f x.1) (f y.1) h1 (hm.of_block (dX (Ne.symm hgm) hm.lt)) (fun z hz => ?_)
   ((hF.plain hx).of_block (dX (Om _ hx) (hF.lt hx))) ((hF.plain hy).of_block (dX (Om _ hy) (hF.lt hy))) (hl x.1 x.2) (hl y.1 y.2)).mono fun e w' ⟨he, hw⟩ => ⟨he, 0, #[], by rw [← hw, grow_empty]; rfl⟩
  obtain ⟨k, hk, e⟩ := hok z hz
  rw [e]
  exact (hF.plain hk).of_block (dX (Om _ hk) (hF.lt hk))
 have hcon := Any.slices_SortFunc_total Tryz.sortNode (fun (x : {k // k ∈ F.kids i}) => bu A x.1) (fun _ => rfl) (fun x y => b9 (f x.1) (f y.1)) (Rv f) 241 #[.pointer (some ⟨bx, 0, none⟩)] g 0 cap (F.kids i).attach.toArray w eg hcmp hH zM (by rw [hsize]; omega)
  (fun x y h1 h2 => by
   simp only [ltOf, decide_eq_false_iff_not] at h1 h2
   have h3 : b9 (f x.1) (f y.1) = 0 := by have := gA (f x.1) (f y.1); omega
   exact Subtype.ext (hs x.1 x.2 y.1 y.2 (gC h3)))
 rw [hsize, ← hv] at hcon
 refine hcon.mono fun e w' ⟨he, m, os, hw⟩ => ⟨he, ?_, ?_⟩
 ·have hsrt : (((F.kids i).attach.toArray.toList.mergeSort fun x y => !(ltOf fun (x y : {k // k ∈ F.kids i}) => b9 (f x.1) (f y.1)) y x).map fun x => x.1) = cA f (F.kids i) := by
   have h := List.map_mergeSort (f := fun (x : {k // k ∈ F.kids i}) => x.1) (r := fun x y => !(ltOf fun (x y : {k // k ∈ F.kids i}) => b9 (f x.1) (f y.1)) y x) (s := mO f) (l := (F.kids i).attach) (fun a _ b _ => by
    simp only [ltOf, mO]
    have := gA (f a.1) (f b.1)
    by_cases h : b9 (f a.1) (f b.1) ≤ 0
    ·rw [decide_eq_true h]; simp; omega
    ·rw [decide_eq_false h]; simp; omega)
   rw [List.toList_toArray]
   rw [h, List.attach_map_subtype_val]
   rfl
  have ho : aC base 119 w' (kv i) ((cA f (F.kids i)).map (bu A)) := by
   rw [hv, hw, ← hsrt, List.map_map]
   have h := aC.sorted (enc := fun (x : {k // k ∈ F.kids i}) => bu A x.1) (n := m) (os := os) (ts := ((F.kids i).attach.toArray.toList.mergeSort fun x y => !(ltOf fun (x y : {k // k ∈ F.kids i}) => b9 (f x.1) (f y.1)) y x)) (vs := (F.kids i).map (bu A)) (by rw [Ml]; exact hown) (by simp)
   rw [Ml] at h
   exact h
  have hsame : ∀ b, b ≠ g → b < w.heap.size → w'.heap[b]? = w.heap[b]? := fun b hb hbl => by rw [hw]; exact dX hb hbl
  have h2 := hF.put (w' := w') (k := i) (v := kv i) (ks := cA f (F.kids i)) hi (fun j hj _ => hsame _ (Om j hj) (hF.lt hj)) (by rw [hsame _ (Om i hi) (hF.lt hi)]; exact hF.node i hi) ho
   (fun j b hj hji hb => hsame b (fun e => hji (hF.alone j i b hj hi hb (by rw [hgo, e]))) (hF.gu hj hb).2) (fun b hb => .inl hb) (fun j hj => hF.kid i hi j ((dU _ _).mem_iff.1 hj))
  have hkv : upd kv i (kv i) = kv := by
   funext j; by_cases e : j = i
   ·subst e; exact upd_same _ _ _
   ·exact upd_ne _ _ e
  rw [hkv] at h2
  exact h2
 ·rw [hw]
  exact ⟨rfl, rfl, rfl, CR _ _ _ _ _, fun b hb _ h2 => dX (fun e => h2 i hi (by rw [hgo, e])) hb⟩
end
end Go.Proofs.YthgabkgmkolobaaGreat
