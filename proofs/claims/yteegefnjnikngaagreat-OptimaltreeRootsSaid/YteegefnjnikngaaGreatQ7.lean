/- A region that draws its order: S is to hold behind an operation only where another one is .. -/
import Derived.Test.YteegefnjnikngaaGreatQ1
import Derived.Test.YteegefnjnikngaaGreatQ6
import Derived.OrdersHeld
import Derived.Deep.RegionHeld
set_option maxRecDepth 100000
namespace Go.Proofs.YteegefnjnikngaaGreat
section
open Go.RowKit Go.Deep
section
variable {P : Program} {ops : Array Oper} {Q : Exit → Act → World → Prop} {md : Region.Mode} {S : World → Prop} {t : Nat}
def jc (t : Nat) (l : Array Bool) : Prop := ∃ m, m < t ∧ l.getD m true = false
def waitsB (t : Nat) (md : Region.Mode) (ops : Array Oper) (l : Array Bool) (i : Nat) : Bool := (List.range t).any fun m => !l.getD m true && (match ops[m]? with | some o => o.after.any fun e => Region.binds md e && e.on == i | none => false)
def af (P : Program) (md : Region.Mode) (ops : Array Oper) (Q : Exit → Act → World → Prop) (S : World → Prop) (t : Nat) : Nat → Array Bool → Act → World → Prop
 | 0, l, a, w => Region.ready md ops l = [] ∧ Q .normal a w
 | n + 1, l, a, w => (Region.ready md ops l = [] → Q .normal a w) ∧
  ∀ i ∈ Region.ready md ops l, wpOp P ops Q i (fun a' w' => (jc t (l.setIfInBounds i true) → S w') ∧ af P md ops Q S t n (l.setIfInBounds i true) a' w') a w
theorem af.any : ∀ (n : Nat) (l : Array Bool) (a : Act) (w : World), af P md ops Q S t n l a w → wpAny P md ops Q n l a w
 | 0, _, _, _, h => h
 | n + 1, _, _, _, h => ⟨h.1, fun i hi => wpOp_mono (fun a' w' h' => af.any n _ a' w' h'.2) (h.2 i hi)⟩
theorem af.first {i : Nat} {oi : Oper} {v : Value} (hi : ops[i]? = some oi) (hsel : ∀ (j : Nat) (o : Oper) cs b, ops[j]? = some o → o.op ≠ .select cs b)
  (hQ : ∀ c a w, Q (.panic c) (a.put oi.dst v) w → Q (.panic c) a w) : ∀ (n : Nat) (l : Array Bool) (a : Act) (w : World),
   (∀ j oj, ops[j]? = some oj → j ≠ i → l.getD j true = false → (∀ e ∈ oj.after, Region.binds md e = true → e.on ≠ i) → oi.apart ops oj = true) →
   i ∈ Region.ready md ops l → waitsB t md ops l i = true → YieldsIf P ops S oi v a → S w → af P md ops Q S t n (l.setIfInBounds i true) (a.put oi.dst v) w → af P md ops Q S t (n + 1) l a w := by
 intro n
 induction n with
 | zero =>
  intro l a w _ hr _ hy hS H
  refine ⟨fun h => absurd hr (by rw [h]; simp), fun j hj => ?_⟩
  by_cases hji : j = i
  ·subst hji; exact hy.wpOp hi hS ⟨fun _ => hS, H⟩
  ·exact absurd (ready_mono hj hji) (by rw [H.1]; simp)
 | succ n ih =>
  intro l a w hfree hr hwt hy hS H
  refine ⟨fun h => absurd hr (by rw [h]; simp), fun j hj => ?_⟩
  by_cases hji : j = i
  ·subst hji; exact hy.wpOp hi hS ⟨fun _ => hS, H⟩
  ·have hun := (mem_ready.1 hr).1
   obtain ⟨sA, oj, k8, hall⟩ := mem_ready.1 hj
   have hnot : ∀ e ∈ oj.after, Region.binds md e = true → e.on ≠ i := fun e he hb heq => by
    have h1 := hall e he hb
    rw [heq] at h1
    by_cases h' : i < l.size
    ·simp [h'] at hun h1; rw [hun] at h1; cases h1
    ·simp [h'] at h1
   have h2 := wpOp_putIf k8 (hfree j oj k8 hji sA hnot) (fun cs b => hsel i oi cs b hi) (fun cs b => hsel j oj cs b k8) hQ hy (H.2 j (ready_mono hj hji))
   have hir : i ∈ Region.ready md ops (l.setIfInBounds j true) := ready_mono hr (Ne.symm hji)
   refine wpOp_mono (fun a' w' h3 => ?_) h2
   have sD : ∀ k ok, ops[k]? = some ok → k ≠ i → (l.setIfInBounds j true).getD k true = false → (∀ e ∈ ok.after, Region.binds md e = true → e.on ≠ i) → oi.apart ops ok = true := fun k ok hk hki yf hno => by
    refine hfree k ok hk hki ?_ hno
    by_cases hjk : j = k
    ·rw [← hjk]; exact sA
    ·rw [getD_set_ne true hjk] at yf; exact yf
   have hcm : (l.setIfInBounds i true).setIfInBounds j true = (l.setIfInBounds j true).setIfInBounds i true := Array.setIfInBounds_comm _ _ (Ne.symm hji)
   obtain ⟨m, hml, hm⟩ := List.any_eq_true.1 hwt
   have hml := List.mem_range.1 hml
   simp only [Bool.and_eq_true, Bool.not_eq_true'] at hm
   obtain ⟨OG, hm2⟩ := hm
   obtain ⟨om, hmo⟩ : ∃ om, ops[m]? = some om := by
    cases h : ops[m]? with
    | none => rw [h] at hm2; cases hm2
    | some o => exact ⟨o, rfl⟩
   rw [hmo] at hm2
   obtain ⟨x, hx, e, OH⟩ := (by simpa using Array.any_eq_true.1 hm2 : ∃ x, ∃ (hx : x < om.after.size), Region.binds md om.after[x] = true ∧ om.after[x].on = i)
   have hmj : m ≠ j := fun e2 => by
    subst e2
    rw [hmo] at k8
    injection k8 with k8
    refine hnot om.after[x] ?_ e OH
    rw [← k8]; exact Array.getElem_mem hx
   have hmi : m ≠ i := fun e2 => by
    subst e2
    obtain ⟨_, o3, yg, h4⟩ := mem_ready.1 hr
    rw [hmo] at yg
    injection yg with yg
    have h5 := h4 om.after[x] (by rw [← yg]; exact Array.getElem_mem hx) e
    rw [OH] at h5
    by_cases h' : m < l.size
    ·simp [h'] at hun h5; rw [hun] at h5; cases h5
    ·simp [h'] at h5
   have OI : S w' := h3.2.1 ⟨m, hml, by rw [getD_set_ne true (Ne.symm hmj), getD_set_ne true (Ne.symm hmi)]; exact OG⟩
   have RM : waitsB t md ops (l.setIfInBounds j true) i = true := List.any_eq_true.2 ⟨m, List.mem_range.2 hml, by
    rw [getD_set_ne true (Ne.symm hmj), OG, hmo]; simpa using hm2⟩
   exact ⟨fun _ => OI, ih _ a' w' sD hir RM h3.1 OI (by rw [← hcm]; exact h3.2.2)⟩
theorem af.MG {i : Nat} {oi : Oper} {v : Value} (hti : t ≤ i) (hi : ops[i]? = some oi) (hsel : ∀ (j : Nat) (o : Oper) cs b, ops[j]? = some o → o.op ≠ .select cs b)
  (hQ : ∀ c a w, Q (.panic c) (a.put oi.dst v) w → Q (.panic c) a w) : ∀ (n : Nat) (l : Array Bool) (a : Act) (w : World),
   (∀ j oj, ops[j]? = some oj → j ≠ i → l.getD j true = false → (∀ e ∈ oj.after, Region.binds md e = true → e.on ≠ i) → oi.apart ops oj = true) →
   i ∈ Region.ready md ops l → YieldsIf P ops (fun _ => True) oi v a → (jc t (l.setIfInBounds i true) → S w) → af P md ops Q S t n (l.setIfInBounds i true) (a.put oi.dst v) w → af P md ops Q S t (n + 1) l a w := by
 intro n
 induction n with
 | zero =>
  intro l a w _ hr hy hS H
  refine ⟨fun h => absurd hr (by rw [h]; simp), fun j hj => ?_⟩
  by_cases hji : j = i
  ·subst hji; exact hy.wpOp hi trivial ⟨hS, H⟩
  ·exact absurd (ready_mono hj hji) (by rw [H.1]; simp)
 | succ n ih =>
  intro l a w hfree hr hy hS H
  refine ⟨fun h => absurd hr (by rw [h]; simp), fun j hj => ?_⟩
  by_cases hji : j = i
  ·subst hji; exact hy.wpOp hi trivial ⟨hS, H⟩
  ·have hun := (mem_ready.1 hr).1
   obtain ⟨sA, oj, k8, hall⟩ := mem_ready.1 hj
   have hnot : ∀ e ∈ oj.after, Region.binds md e = true → e.on ≠ i := fun e he hb heq => by
    have h1 := hall e he hb
    rw [heq] at h1
    by_cases h' : i < l.size
    ·simp [h'] at hun h1; rw [hun] at h1; cases h1
    ·simp [h'] at h1
   have h2 := wpOp_putIf k8 (hfree j oj k8 hji sA hnot) (fun cs b => hsel i oi cs b hi) (fun cs b => hsel j oj cs b k8) hQ hy (H.2 j (ready_mono hj hji))
   have hir : i ∈ Region.ready md ops (l.setIfInBounds j true) := ready_mono hr (Ne.symm hji)
   refine wpOp_mono (fun a' w' h3 => ?_) h2
   have sD : ∀ k ok, ops[k]? = some ok → k ≠ i → (l.setIfInBounds j true).getD k true = false → (∀ e ∈ ok.after, Region.binds md e = true → e.on ≠ i) → oi.apart ops ok = true := fun k ok hk hki yf hno => by
    refine hfree k ok hk hki ?_ hno
    by_cases hjk : j = k
    ·rw [← hjk]; exact sA
    ·rw [getD_set_ne true hjk] at yf; exact yf
   have hcm : (l.setIfInBounds i true).setIfInBounds j true = (l.setIfInBounds j true).setIfInBounds i true := Array.setIfInBounds_comm _ _ (Ne.symm hji)
   have hmo : jc t (l.setIfInBounds j true) → S w' := fun ⟨m, hm, hml⟩ => h3.2.1 ⟨m, hm, by
    rw [hcm, getD_set_ne true (by omega)]; exact hml⟩
   refine ⟨hmo, ih _ a' w' sD hir h3.1 (fun ⟨m, hm, hml⟩ => hmo ⟨m, hm, ?_⟩) (by rw [← hcm]; exact h3.2.2)⟩
   rw [getD_set_ne true (by omega)] at hml; exact hml
theorem af.free {i : Nat} {oi : Oper} {v : Value} {n : Nat} {l : Array Bool} {a : Act} {w : World} (kR : ops.toList[i]? = some oi)
  (hc : (decide (t ≤ i) && Region.noSelect ops && Region.free md ops l i && (Region.ready md ops l).contains i) = true)
  (hQ : ∀ c a w, Q (.panic c) (a.put oi.dst v) w → Q (.panic c) a w) (hg : Region.wanted oi (yielded ops a.tmps) = true) (hy : ∀ w, (execOp a.eval oi).run P w = .ok (.value v) w) (hS : jc t (l.setIfInBounds i true) → S w)
  (h : af P md ops Q S t n (l.setIfInBounds i true) (a.put oi.dst v) w) : af P md ops Q S t (n + 1) l a w := by
 have hi : ops[i]? = some oi := by rw [← Array.getElem?_toList]; exact kR
 simp only [Bool.and_eq_true, decide_eq_true_eq] at hc
 obtain ⟨⟨⟨h0, h1⟩, h2⟩, h3⟩ := hc
 exact af.MG h0 hi (Region.noSelect_spec h1) hQ n l a w (Region.free_spec hi h2) (by simpa using h3) (.inl ⟨hg, fun w _ => hy w⟩) hS h
theorem af.take {i : Nat} {oi : Oper} {v : Value} {n : Nat} {l : Array Bool} {a : Act} {w : World} (kR : ops.toList[i]? = some oi)
  (hc : (Region.noSelect ops && Region.free md ops l i && (Region.ready md ops l).contains i && waitsB t md ops l i) = true)
  (hQ : ∀ c a w, Q (.panic c) (a.put oi.dst v) w → Q (.panic c) a w) (hg : Region.wanted oi (yielded ops a.tmps) = true) (hy : ∀ w, S w → (execOp a.eval oi).run P w = .ok (.value v) w) (hS : S w)
  (h : af P md ops Q S t n (l.setIfInBounds i true) (a.put oi.dst v) w) : af P md ops Q S t (n + 1) l a w := by
 have hi : ops[i]? = some oi := by rw [← Array.getElem?_toList]; exact kR
 simp only [Bool.and_eq_true] at hc
 obtain ⟨⟨⟨h1, h2⟩, h3⟩, h4⟩ := hc
 exact af.first hi (Region.noSelect_spec h1) hQ n l a w (Region.free_spec hi h2) (by simpa using h3) h4 (.inl ⟨hg, hy⟩) hS h
theorem af.step {i : Nat} {oi : Oper} {n : Nat} {l : Array Bool} {a : Act} {w : World} (kR : ops.toList[i]? = some oi) (hr : Region.ready md ops l = [i])
  (h : ∀ K' : Act → World → Prop, Shut (∀ a w, (jc t (l.setIfInBounds i true) → S w) → ((jc t (l.setIfInBounds i true) → S w) → af P md ops Q S t n (l.setIfInBounds i true) a w) → K' a w) → if Region.wanted oi (yielded ops a.tmps) = true then Oper.wp P oi a w K' Q else K' (a.put oi.dst undef) w) :
  af P md ops Q S t (n + 1) l a w :=
 ⟨fun h0 => absurd (h0.symm.trans hr) (by simp), fun j hj => by
  rw [hr] at hj
  obtain rfl : j = i := by simpa using hj
  exact wpOp_step (by rw [← Array.getElem?_toList]; exact kR) fun K' hK => h K' fun a w hS hW => hK a w ⟨hS, hW hS⟩⟩
theorem af.wh {i i2 : Nat} {oi zT : Oper} {n : Nat} {l : Array Bool} {a : Act} {w : World} (kR : ops.toList[i]? = some oi) (RN : ops.toList[i2]? = some zT) (hr : Region.ready md ops l = [i, i2])
  (h : ∀ K' : Act → World → Prop, Shut (∀ a w, (jc t (l.setIfInBounds i true) → S w) → ((jc t (l.setIfInBounds i true) → S w) → af P md ops Q S t n (l.setIfInBounds i true) a w) → K' a w) → if Region.wanted oi (yielded ops a.tmps) = true then Oper.wp P oi a w K' Q else K' (a.put oi.dst undef) w)
  (h2 : ∀ K' : Act → World → Prop, Shut (∀ a w, (jc t (l.setIfInBounds i2 true) → S w) → ((jc t (l.setIfInBounds i2 true) → S w) → af P md ops Q S t n (l.setIfInBounds i2 true) a w) → K' a w) → if Region.wanted zT (yielded ops a.tmps) = true then Oper.wp P zT a w K' Q else K' (a.put zT.dst undef) w) :
  af P md ops Q S t (n + 1) l a w :=
 ⟨fun h0 => absurd (h0.symm.trans hr) (by simp), fun j hj => by
  rw [hr] at hj
  rcases List.mem_cons.1 hj with rfl | hj
  ·exact wpOp_step (by rw [← Array.getElem?_toList]; exact kR) fun K' hK => h K' fun a w hS hW => hK a w ⟨hS, hW hS⟩
  ·obtain rfl : j = i2 := by simpa using hj
   exact wpOp_step (by rw [← Array.getElem?_toList]; exact RN) fun K' hK => h2 K' fun a w hS hW => hK a w ⟨hS, hW hS⟩⟩
theorem af.done {l : Array Bool} {a : Act} {w : World} {n : Nat} (hr : Region.ready md ops l = []) (h : Q .normal a w) : af P md ops Q S t n l a w := by
 cases n with
 | zero => exact ⟨hr, h⟩
 | succ n => exact ⟨fun _ => h, fun j hj => (by rw [hr] at hj; cases hj)⟩
theorem aJ {t : Nat} {l : Array Bool} (h : ((List.range t).all fun m => l.getD m true) = true) {p : Prop} : jc t l → p := fun ⟨m, hm, hl⟩ => by
 have := List.all_eq_true.1 h m (List.mem_range.2 hm)
 rw [hl] at this; cases this
theorem cU {id : Nat} {a : Act} {w : World} (hm : P.follows .mixedOrders = true) (t : Nat) (S : World → Prop) (hS : S w.drew)
  (h : S w.drew → af P .any ops Q S t ops.size (Array.replicate ops.size false) a w.drew) : (Code.region id ops true).wp P Q a w := wp_region_any hm (af.any _ _ _ _ (h hS))
end
end
section
open Go.RowKit Go.Deep
theorem Tryz.OJ : (Tryz.prog.info? 26).map (fun i => (i.zero, i.size, i.bytes)) = some (some (.slice none 0 0), 1, 24) := by kernel_rfl
theorem aT (W : World) (cs : Array Value) (t : TypeId) (k : Nat) : (W.alloc (.cells cs t)).cell? ⟨W.heap.size, k, none⟩ = cs[k]? := by
 unfold World.cell?; rw [World.alloc_heap_new]; rfl
theorem kS (W : World) (v : Value) (t : TypeId) : (W.alloc (.cells #[v] t)).cell? ⟨W.heap.size, 0, none⟩ = some v := aT W _ t 0
theorem zi.step {w w' : World} {t : ax} {st : List Int} {cs : List (List Int)} {pC pL pS pT pO ob : Nat} {V : Nat → Value} {j : Nat} {v : Value} (h : zi w t st cs pC pL pS pT pO ob V (j + 1))
  (hg : w.grownBy w' (some ob)) (hr : w'.rowIs ob 26 t.ps.length (fun x => if x = j then v else V x)) (hv : aB (· ≠ ob) w' v (aV t st cs j)) : zi w' t st cs pC pL pS pT pO ob (fun x => if x = j then v else V x) j := by
 have hk : Kept (· ≠ ob) w w' := fun b hb hl => hg.block b hl (by simp; exact hb)
 have hc : ∀ {p o : Nat} {x : Value}, p ≠ ob → w.cell? ⟨p, o, none⟩ = some x → w'.cell? ⟨p, o, none⟩ = some x := fun hp hx => hg.cell hx (by simp; exact hp)
 obtain ⟨n1, n2, n3, n4, n5⟩ := h.ne
 obtain ⟨C, a1, a2⟩ := h.cC
 obtain ⟨L, b1, b2⟩ := h.cL
 obtain ⟨Q, c1, c2⟩ := h.cS
 obtain ⟨P, N, d1, d2, d3⟩ := h.cT
 refine ⟨⟨C, hc n1 a1, a2.keep hk⟩, ⟨L, hc n2 b1, b2.keep hk⟩, ⟨Q, hc n3 c1, c2.keep hk⟩, ⟨P, N, hc n4 d1, hc n4 d2, d3.keep hk⟩, hc n5 h.cO, hr, fun x h1 h2 => ?_, h.ne⟩
 by_cases e : x = j
 ·subst e; simp only [if_true]; exact hv
 ·simp only [e, if_false]; exact (h.rows x (by omega) h2).keep hk
def nW (t : ax) (st : List Int) (cs : List (List Int)) : List (List Int) := (List.range t.ps.length).map (aV t st cs)
def BV (w : World) (l : List (List Int)) (e : Ending) (w' : World) : Prop := Below w.heap.size w w' ∧ ∃ v, e = .returned v ∧ bh Any w' v l
set_option maxHeartbeats 800000 in
theorem V0 (S : Nat → Prop) (w : World) (v vs vc : Value) (t : ax) (st : List Int) (cs : List (List Int)) (hT : aC S w v t) (hS : aB S w vs st) (hC : bh S w vc cs)
  (he : az t = 0) (X7 : t.ns.length ≤ 64) (hz : ∀ k, (gs t.ns k).size ≤ 70000)
  (hn : t.ps.length ≤ 64) (hm : cs.length ≤ 16) (hm0 : 0 < cs.length) (qx : (ay t.ns).length ≤ st.length) (hrl : ∀ a, a < cs.length → (gl cs a).length = cs.length) (hcb : ∀ a k, 0 ≤ gi (gl cs a) k ∧ gi (gl cs a) k ≤ 1000)
  (htb : ∀ j s, j < t.ps.length → -1 ≤ gi (aV t st cs j) s ∧ gi (aV t st cs j) s ≤ 100000) (kP : (ay t.ns).length ≤ 64) :
  Calls Tryz.prog 183 #[v, vs, vc] w (BV w (nW t st cs)) := by
 obtain ⟨P, N, rfl, hP, hN⟩ := hT
 obtain ⟨p, cap, rfl, hcap, xy⟩ := aD.open hP
 obtain ⟨qS, kI, rfl, _, _⟩ := aD.open hS
 obtain ⟨fC, AO, BQ⟩ := hC
 obtain ⟨qC, jV, rfl, _, _⟩ := aD.open AO
 have hC : bh S w (.slice qC cs.length jV) cs := ⟨fC, AO, BQ⟩
 clear AO BQ
 have hmk := fun W => run_make_row' (P := Tryz.prog) 23 26 (.slice none 0 0) 24 Tryz.underlying23 Tryz.OJ rfl .i64 .i64 t.ps.length (by omega) (by omega) W
 have l5 : Below w.heap.size w (((((w.alloc (.cells #[.slice p t.ps.length cap, N] 39)).alloc (.cells #[.slice qS st.length kI] 26)).alloc (.cells #[.slice qC cs.length jV] 23)).alloc (.cells (madeCells #[.slice none 0 0] t.ps.length) 26)).alloc (.cells #[.slice (some ⟨w.heap.size + 1 + 1 + 1, 0, none⟩) t.ps.length t.ps.length] 23)) := (((((Below.refl _ w).alloc (Nat.le_refl _) _).alloc (by simp) _).alloc (by simp; omega) _).alloc (by simp; omega) _).alloc (by simp; omega) _
 have yh : aC S (((((w.alloc (.cells #[.slice p t.ps.length cap, N] 39)).alloc (.cells #[.slice qS st.length kI] 26)).alloc (.cells #[.slice qC cs.length jV] 23)).alloc (.cells (madeCells #[.slice none 0 0] t.ps.length) 26)).alloc (.cells #[.slice (some ⟨w.heap.size + 1 + 1 + 1, 0, none⟩) t.ps.length t.ps.length] 23)) (.agg #[.slice p t.ps.length cap, N]) t := aC.keep ⟨_, _, rfl, hP, hN⟩ (Kept.below l5)
 have GL : Below (((w.alloc (.cells #[.slice p t.ps.length cap, N] 39)).alloc (.cells #[.slice qS st.length kI] 26)).alloc (.cells #[.slice qC cs.length jV] 23)).heap.size (((w.alloc (.cells #[.slice p t.ps.length cap, N] 39)).alloc (.cells #[.slice qS st.length kI] 26)).alloc (.cells #[.slice qC cs.length jV] 23)) (((((w.alloc (.cells #[.slice p t.ps.length cap, N] 39)).alloc (.cells #[.slice qS st.length kI] 26)).alloc (.cells #[.slice qC cs.length jV] 23)).alloc (.cells (madeCells #[.slice none 0 0] t.ps.length) 26)).alloc (.cells #[.slice (some ⟨w.heap.size + 1 + 1 + 1, 0, none⟩) t.ps.length t.ps.length] 23)) := ((Below.refl _ _).alloc (Nat.le_refl _) _).alloc (by simp) _
 have RO : Below (w.alloc (.cells #[.slice p t.ps.length cap, N] 39)).heap.size (w.alloc (.cells #[.slice p t.ps.length cap, N] 39)) (((w.alloc (.cells #[.slice p t.ps.length cap, N] 39)).alloc (.cells #[.slice qS st.length kI] 26)).alloc (.cells #[.slice qC cs.length jV] 23)) := ((Below.refl _ _).alloc (Nat.le_refl _) _).alloc (by simp) _
 have X8 : Below ((w.alloc (.cells #[.slice p t.ps.length cap, N] 39)).alloc (.cells #[.slice qS st.length kI] 26)).heap.size ((w.alloc (.cells #[.slice p t.ps.length cap, N] 39)).alloc (.cells #[.slice qS st.length kI] 26)) (((w.alloc (.cells #[.slice p t.ps.length cap, N] 39)).alloc (.cells #[.slice qS st.length kI] 26)).alloc (.cells #[.slice qC cs.length jV] 23)) := (Below.refl _ _).alloc (Nat.le_refl _) _
 have c0 := cell_later GL (cell_later RO (aT w #[.slice p t.ps.length cap, N] 39 0))
 have c1 := cell_later GL (cell_later RO (aT w #[.slice p t.ps.length cap, N] 39 1))
 have c2 := cell_later GL (cell_later X8 (kS (w.alloc (.cells #[.slice p t.ps.length cap, N] 39)) (.slice qS st.length kI) 26))
 have c3 := cell_later GL (kS ((w.alloc (.cells #[.slice p t.ps.length cap, N] 39)).alloc (.cells #[.slice qS st.length kI] 26)) (.slice qC cs.length jV) 23)
 simp only [World.size_alloc] at c2 c3
 have c4 : (((((w.alloc (.cells #[.slice p t.ps.length cap, N] 39)).alloc (.cells #[.slice qS st.length kI] 26)).alloc (.cells #[.slice qC cs.length jV] 23)).alloc (.cells (madeCells #[.slice none 0 0] t.ps.length) 26)).alloc (.cells #[.slice (some ⟨w.heap.size + 1 + 1 + 1, 0, none⟩) t.ps.length t.ps.length] 23)).rowIs (w.heap.size + 1 + 1 + 1) 26 t.ps.length (fun _ => .slice none 0 0) := by
  have h := World.rowIs_made (((w.alloc (.cells #[.slice p t.ps.length cap, N] 39)).alloc (.cells #[.slice qS st.length kI] 26)).alloc (.cells #[.slice qC cs.length jV] 23)) (.slice none 0 0) t.ps.length 26
  simp only [World.size_alloc] at h
  exact h.alloc _
 have c5 : (((((w.alloc (.cells #[.slice p t.ps.length cap, N] 39)).alloc (.cells #[.slice qS st.length kI] 26)).alloc (.cells #[.slice qC cs.length jV] 23)).alloc (.cells (madeCells #[.slice none 0 0] t.ps.length) 26)).alloc (.cells #[.slice (some ⟨w.heap.size + 1 + 1 + 1, 0, none⟩) t.ps.length t.ps.length] 23)).cell? ⟨w.heap.size + 1 + 1 + 1 + 1, 0, none⟩ = some (.slice (some ⟨w.heap.size + 1 + 1 + 1, 0, none⟩) t.ps.length t.ps.length) := by
  have h := (kS ((((w.alloc (.cells #[.slice p t.ps.length cap, N] 39)).alloc (.cells #[.slice qS st.length kI] 26)).alloc (.cells #[.slice qC cs.length jV] 23)).alloc (.cells (madeCells #[.slice none 0 0] t.ps.length) 26)) (.slice (some ⟨w.heap.size + 1 + 1 + 1, 0, none⟩) t.ps.length t.ps.length) 23)
  simpa only [World.size_alloc] using h
 have z5 : (((((w.alloc (.cells #[.slice p t.ps.length cap, N] 39)).alloc (.cells #[.slice qS st.length kI] 26)).alloc (.cells #[.slice qC cs.length jV] 23)).alloc (.cells (madeCells #[.slice none 0 0] t.ps.length) 26)).alloc (.cells #[.slice (some ⟨w.heap.size + 1 + 1 + 1, 0, none⟩) t.ps.length t.ps.length] 23)).heap.size = w.heap.size + 5 := by simp
 have hL := vX S _ _ t yh (by omega) (by omega) hz
 have HL := aa hL
 have xz := aa l5
 have C0 := aa c0
 have C1 := aa c1
 have C2 := aa c2
 have C3 := aa c3
 have C4 := aa c4
 have C5 := aa c5
 have Z5 := aa z5
 have HC := aa hC
 have HS := aa hS
 have HP := aa hP
 clear xy GL RO X8 l5 yh c0 c1 c2 c3 c4 c5 z5 hL hC hS hP hN hz
 go_enter Tryz.func183, Tryz.ntmps183
 go_wp2_with fail
 generalize (((((w.alloc (.cells #[.slice p t.ps.length cap, N] 39)).alloc (.cells #[.slice qS st.length kI] 26)).alloc (.cells #[.slice qC cs.length jV] 23)).alloc (.cells (madeCells #[.slice none 0 0] t.ps.length) 26)).alloc (.cells #[.slice (some ⟨w.heap.size + 1 + 1 + 1, 0, none⟩) t.ps.length t.ps.length] 23)) = w5 at *
 clear hmk
 refine HL.out.mono ?_
 rintro e w6 ⟨zU, ⟨h1, _⟩ | ⟨_, lv, rfl, hlv⟩⟩
 ·exact absurd he h1
 obtain ⟨lp, lc, rfl, _, _⟩ := aD.open hlv
 have OD : Below w6.heap.size w6 (w6.alloc (.cells #[.slice lp (ay t.ns).length lc] 26)) := (Below.refl _ _).alloc (Nat.le_refl _) _
 have sF : Below w5.heap.size w5 (w6.alloc (.cells #[.slice lp (ay t.ns).length lc] 26)) := zU.trans (OD.mono zU.size)
 have d5 := cell_later sF C5.out
 have d6 := kS w6 (.slice lp (ay t.ns).length lc) 26
 have X9 : Below w.heap.size w (w6.alloc (.cells #[.slice lp (ay t.ns).length lc] 26)) := xz.out.trans (sF.mono xz.out.size)
 have z6 : w.heap.size + 5 ≤ w6.heap.size := by have := Z5.out; have := zU.size; omega
 have hF : zi (w6.alloc (.cells #[.slice lp (ay t.ns).length lc] 26)) t st cs (w.heap.size + 1 + 1) w6.heap.size (w.heap.size + 1) w.heap.size (w.heap.size + 1 + 1 + 1 + 1) (w.heap.size + 1 + 1 + 1) (fun _ => .slice none 0 0) t.ps.length :=
  ⟨⟨_, cell_later sF C3.out, (((HC.out.sub (T := fun b => b < w.heap.size) fun b _ hb => hb).keep (Kept.below xz.out)).keep (Kept.below sF)).sub fun b hb _ => by omega⟩,
   ⟨_, d6, (hlv.keep (Kept.below OD)).sub fun b hb _ => by have := Z5.out; omega⟩,
   ⟨_, cell_later sF C2.out, (((HS.out.sub (T := fun b => b < w.heap.size) fun b _ hb => hb).keep (Kept.below xz.out)).keep (Kept.below sF)).sub fun b hb _ => by omega⟩, ⟨_, _, cell_later sF C0.out, cell_later sF C1.out, (((HP.out.sub (T := fun b => b < w.heap.size) fun b _ hb => hb).keep (Kept.below xz.out)).keep (Kept.below sF)).sub fun b hb _ => by omega⟩, d5, C4.out.of_block (sF.block _ (by have := Z5.out; omega)), fun j h1 h2 => by omega, by omega, by omega, by omega, by omega, by omega⟩
 have HF := aa hF
 have HBW := aa X9
 clear zU hlv OD sF d6 X9 hF
 have ye := aa htb
 have Ef := aa hcb
 have oJ := aa hrl
 clear htb hcb hrl HL C0 C1 C2 C3 C4 C5 HC HS HP
 go_wp2_with fail
 generalize (w6.alloc (.cells #[.slice lp (ay t.ns).length lc] 26)) = w7 at *
 generalize w6.heap.size = pL at *
 go_loopw [11] (fun i wr => ∃ (k : Nat) (V : Nat → Value), k ≤ t.ps.length ∧ i = .int .i64 ((k : Int) - 1) ∧ Hid (zi wr t st cs (w.heap.size + 1 + 1) pL (w.heap.size + 1) w.heap.size (w.heap.size + 1 + 1 + 1 + 1) (w.heap.size + 1 + 1 + 1) V k) ∧ Hid (Below w.heap.size w wr)) (fun i _ => (intOf i + 1).toNat)
 case atStart => exact ⟨t.ps.length, _, Nat.le_refl _, by go_num, HF, HBW⟩
 case round =>
  obtain ⟨k, V, hk, rfl, hF, hB⟩ := hrel
  rcases Nat.eq_zero_or_pos k with rfl | tM
  ·have Ud := hF.out.cO
   go_wp2_with fail
   go_ret
   refine ⟨hB.out, _, rfl, V, ?_, ?_⟩
   ·refine ⟨some ⟨w.heap.size + 1 + 1 + 1, 0, none⟩, t.ps.length, by rw [show (nW t st cs).length = t.ps.length by simp [nW]]; rfl, by simp [nW], .inr ⟨_, 0, rfl, trivial, fun k hk => ?_⟩⟩
    rw [Nat.zero_add]; exact hF.out.row.cell (by simpa [nW] using hk)
   ·intro k hk
    have hk2 : k < t.ps.length := by simpa [nW] using hk
    have he : gl (nW t st cs) k = aV t st cs k := by simp [gl, nW, hk2]
    rw [he]; exact (hF.out.rows k (Nat.zero_le _) hk2).sub fun _ _ _ => trivial
  ·obtain ⟨j, rfl⟩ : ∃ j, k = j + 1 := ⟨k - 1, by omega⟩
   go_wp2_with fail
   refine (XP wr t st cs _ _ _ _ _ _ V j (by omega) hF.out hn hm hm0 qx oJ.out Ef.out ye.out kP).mono ?_
   rintro e w8 ⟨rfl, hg, v, hr, hv⟩
   have hF2 := aa (hF.out.step hg hr hv)
   have hB2 := aa (hB.out.grown hg hB.out.size fun k e => by cases e <;> omega)
   clear hg hr hv
   go_wp2_with fail
   go_roundw
   case rel => exact ⟨j, _, by omega, by go_num, hF2, hB2⟩
   case measure => simp [intOf]
end
end Go.Proofs.YteegefnjnikngaaGreat
