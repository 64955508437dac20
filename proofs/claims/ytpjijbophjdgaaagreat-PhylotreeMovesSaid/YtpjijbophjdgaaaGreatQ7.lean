/- A region that draws its order: S is to hold behind an operation only where another one is still to come. The contracts of parsimony.Table, Assign. -/
import Derived.Test.YtpjijbophjdgaaaGreatQ3
import Derived.OrdersHeld
import Derived.Deep.RegionHeld
import Derived.Test.YtpjijbophjdgaaaGreatQ1
import Derived.StillTailTactics
namespace Go.Proofs.YtpjijbophjdgaaaGreat
open Go.RowKit Go.Deep
section
variable {P : Program} {ops : Array Oper} {Q : Exit → Act → World → Prop} {md : Region.Mode} {S : World → Prop} {t : Nat}
def More (t : Nat) (l : Array Bool) : Prop := ∃ m, m < t ∧ l.getD m true = false
def waitsB (t : Nat) (md : Region.Mode) (ops : Array Oper) (l : Array Bool) (i : Nat) : Bool := (List.range t).any fun m => !l.getD m true && (match ops[m]? with | some o => o.after.any fun e => Region.binds md e && e.on == i | none => false)
def anyT (P : Program) (md : Region.Mode) (ops : Array Oper) (Q : Exit → Act → World → Prop) (S : World → Prop) (t : Nat) : Nat → Array Bool → Act → World → Prop
  | 0, l, a, w => Region.ready md ops l = [] ∧ Q .normal a w
  | n + 1, l, a, w => (Region.ready md ops l = [] → Q .normal a w) ∧
    ∀ i ∈ Region.ready md ops l, wpOp P ops Q i (fun a' w' => (More t (l.setIfInBounds i true) → S w') ∧ anyT P md ops Q S t n (l.setIfInBounds i true) a' w') a w
theorem anyT.any : ∀ (n : Nat) (l : Array Bool) (a : Act) (w : World), anyT P md ops Q S t n l a w → wpAny P md ops Q n l a w
  | 0, _, _, _, h => h
  | n + 1, _, _, _, h => ⟨h.1, fun i hi => wpOp_mono (fun a' w' h' => anyT.any n _ a' w' h'.2) (h.2 i hi)⟩
theorem anyT.first {i : Nat} {oi : Oper} {v : Value} (hi : ops[i]? = some oi) (hsel : ∀ (j : Nat) (o : Oper) cs b, ops[j]? = some o → o.op ≠ .select cs b)
    (hQ : ∀ c a w, Q (.panic c) (a.put oi.dst v) w → Q (.panic c) a w) : ∀ (n : Nat) (l : Array Bool) (a : Act) (w : World),
      (∀ j oj, ops[j]? = some oj → j ≠ i → l.getD j true = false → (∀ e ∈ oj.after, Region.binds md e = true → e.on ≠ i) → oi.apart ops oj = true) →
      i ∈ Region.ready md ops l → waitsB t md ops l i = true → YieldsIf P ops S oi v a → S w → anyT P md ops Q S t n (l.setIfInBounds i true) (a.put oi.dst v) w → anyT P md ops Q S t (n + 1) l a w := by
  intro n
  induction n with
  | zero =>
    intro l a w _ hr _ hy hS H
    refine ⟨fun h => absurd hr (by rw [h]; simp), fun j hj => ?_⟩
    by_cases hji : j = i
    · subst hji; exact hy.wpOp hi hS ⟨fun _ => hS, H⟩
    · exact absurd (ready_mono hj hji) (by rw [H.1]; simp)
  | succ n ih =>
    intro l a w hfree hr hwt hy hS H
    refine ⟨fun h => absurd hr (by rw [h]; simp), fun j hj => ?_⟩
    by_cases hji : j = i
    · subst hji; exact hy.wpOp hi hS ⟨fun _ => hS, H⟩
    · have hun := (mem_ready.1 hr).1
      obtain ⟨hjun, oj, hoj, hall⟩ := mem_ready.1 hj
      have hnot : ∀ e ∈ oj.after, Region.binds md e = true → e.on ≠ i := fun e he hb heq => by
        have h1 := hall e he hb
        rw [heq] at h1
        by_cases h' : i < l.size
        · simp [h'] at hun h1; rw [hun] at h1; cases h1
        · simp [h'] at h1
      have h2 := wpOp_putIf hoj (hfree j oj hoj hji hjun hnot) (fun cs b => hsel i oi cs b hi) (fun cs b => hsel j oj cs b hoj) hQ hy (H.2 j (ready_mono hj hji))
      have hir : i ∈ Region.ready md ops (l.setIfInBounds j true) := ready_mono hr (Ne.symm hji)
      refine wpOp_mono (fun a' w' h3 => ?_) h2
      have hfree' : ∀ k ok, ops[k]? = some ok → k ≠ i → (l.setIfInBounds j true).getD k true = false → (∀ e ∈ ok.after, Region.binds md e = true → e.on ≠ i) → oi.apart ops ok = true := fun k ok hk hki hku hno => by
        refine hfree k ok hk hki ?_ hno
        by_cases hjk : j = k
        · rw [← hjk]; exact hjun
        · rw [getD_set_ne true hjk] at hku; exact hku
      have hcm : (l.setIfInBounds i true).setIfInBounds j true = (l.setIfInBounds j true).setIfInBounds i true := Array.setIfInBounds_comm _ _ (Ne.symm hji)
      obtain ⟨m, hml, hm⟩ := List.any_eq_true.1 hwt
      have hml := List.mem_range.1 hml
      simp only [Bool.and_eq_true, Bool.not_eq_true'] at hm
      obtain ⟨hm1, hm2⟩ := hm
      obtain ⟨om, hmo⟩ : ∃ om, ops[m]? = some om := by
        cases h : ops[m]? with
        | none => rw [h] at hm2; cases hm2
        | some o => exact ⟨o, rfl⟩
      rw [hmo] at hm2
      obtain ⟨x, hx, e, hxe⟩ := (by simpa using Array.any_eq_true.1 hm2 : ∃ x, ∃ (hx : x < om.after.size), Region.binds md om.after[x] = true ∧ om.after[x].on = i)
      have hmj : m ≠ j := fun e2 => by
        subst e2
        rw [hmo] at hoj
        injection hoj with hoj
        refine hnot om.after[x] ?_ e hxe
        rw [← hoj]; exact Array.getElem_mem hx
      have hmi : m ≠ i := fun e2 => by
        subst e2
        obtain ⟨_, o3, ho3, h4⟩ := mem_ready.1 hr
        rw [hmo] at ho3
        injection ho3 with ho3
        have h5 := h4 om.after[x] (by rw [← ho3]; exact Array.getElem_mem hx) e
        rw [hxe] at h5
        by_cases h' : m < l.size
        · simp [h'] at hun h5; rw [hun] at h5; cases h5
        · simp [h'] at h5
      have hS' : S w' := h3.2.1 ⟨m, hml, by rw [getD_set_ne true (Ne.symm hmj), getD_set_ne true (Ne.symm hmi)]; exact hm1⟩
      have hwt' : waitsB t md ops (l.setIfInBounds j true) i = true := List.any_eq_true.2 ⟨m, List.mem_range.2 hml, by
        rw [getD_set_ne true (Ne.symm hmj), hm1, hmo]; simpa using hm2⟩
      exact ⟨fun _ => hS', ih _ a' w' hfree' hir hwt' h3.1 hS' (by rw [← hcm]; exact h3.2.2)⟩
theorem anyT.free1 {i : Nat} {oi : Oper} {v : Value} (hti : t ≤ i) (hi : ops[i]? = some oi) (hsel : ∀ (j : Nat) (o : Oper) cs b, ops[j]? = some o → o.op ≠ .select cs b)
    (hQ : ∀ c a w, Q (.panic c) (a.put oi.dst v) w → Q (.panic c) a w) : ∀ (n : Nat) (l : Array Bool) (a : Act) (w : World),
      (∀ j oj, ops[j]? = some oj → j ≠ i → l.getD j true = false → (∀ e ∈ oj.after, Region.binds md e = true → e.on ≠ i) → oi.apart ops oj = true) →
      i ∈ Region.ready md ops l → YieldsIf P ops (fun _ => True) oi v a → (More t (l.setIfInBounds i true) → S w) → anyT P md ops Q S t n (l.setIfInBounds i true) (a.put oi.dst v) w → anyT P md ops Q S t (n + 1) l a w := by
  intro n
  induction n with
  | zero =>
    intro l a w _ hr hy hS H
    refine ⟨fun h => absurd hr (by rw [h]; simp), fun j hj => ?_⟩
    by_cases hji : j = i
    · subst hji; exact hy.wpOp hi trivial ⟨hS, H⟩
    · exact absurd (ready_mono hj hji) (by rw [H.1]; simp)
  | succ n ih =>
    intro l a w hfree hr hy hS H
    refine ⟨fun h => absurd hr (by rw [h]; simp), fun j hj => ?_⟩
    by_cases hji : j = i
    · subst hji; exact hy.wpOp hi trivial ⟨hS, H⟩
    · have hun := (mem_ready.1 hr).1
      obtain ⟨hjun, oj, hoj, hall⟩ := mem_ready.1 hj
      have hnot : ∀ e ∈ oj.after, Region.binds md e = true → e.on ≠ i := fun e he hb heq => by
        have h1 := hall e he hb
        rw [heq] at h1
        by_cases h' : i < l.size
        · simp [h'] at hun h1; rw [hun] at h1; cases h1
        · simp [h'] at h1
      have h2 := wpOp_putIf hoj (hfree j oj hoj hji hjun hnot) (fun cs b => hsel i oi cs b hi) (fun cs b => hsel j oj cs b hoj) hQ hy (H.2 j (ready_mono hj hji))
      have hir : i ∈ Region.ready md ops (l.setIfInBounds j true) := ready_mono hr (Ne.symm hji)
      refine wpOp_mono (fun a' w' h3 => ?_) h2
      have hfree' : ∀ k ok, ops[k]? = some ok → k ≠ i → (l.setIfInBounds j true).getD k true = false → (∀ e ∈ ok.after, Region.binds md e = true → e.on ≠ i) → oi.apart ops ok = true := fun k ok hk hki hku hno => by
        refine hfree k ok hk hki ?_ hno
        by_cases hjk : j = k
        · rw [← hjk]; exact hjun
        · rw [getD_set_ne true hjk] at hku; exact hku
      have hcm : (l.setIfInBounds i true).setIfInBounds j true = (l.setIfInBounds j true).setIfInBounds i true := Array.setIfInBounds_comm _ _ (Ne.symm hji)
      have hmo : More t (l.setIfInBounds j true) → S w' := fun ⟨m, hm, hml⟩ => h3.2.1 ⟨m, hm, by
        rw [hcm, getD_set_ne true (by omega)]; exact hml⟩
      refine ⟨hmo, ih _ a' w' hfree' hir h3.1 (fun ⟨m, hm, hml⟩ => hmo ⟨m, hm, ?_⟩) (by rw [← hcm]; exact h3.2.2)⟩
      rw [getD_set_ne true (by omega)] at hml; exact hml
theorem anyT.free {i : Nat} {oi : Oper} {v : Value} {n : Nat} {l : Array Bool} {a : Act} {w : World} (hi0 : ops.toList[i]? = some oi)
    (hc : (decide (t ≤ i) && Region.noSelect ops && Region.free md ops l i && (Region.ready md ops l).contains i) = true)
    (hQ : ∀ c a w, Q (.panic c) (a.put oi.dst v) w → Q (.panic c) a w) (hg : Region.wanted oi (yielded ops a.tmps) = true) (hy : ∀ w, (execOp a.eval oi).run P w = .ok (.value v) w) (hS : More t (l.setIfInBounds i true) → S w)
    (h : anyT P md ops Q S t n (l.setIfInBounds i true) (a.put oi.dst v) w) : anyT P md ops Q S t (n + 1) l a w := by
  have hi : ops[i]? = some oi := by rw [← Array.getElem?_toList]; exact hi0
  simp only [Bool.and_eq_true, decide_eq_true_eq] at hc
  obtain ⟨⟨⟨h0, h1⟩, h2⟩, h3⟩ := hc
  exact anyT.free1 h0 hi (Region.noSelect_spec h1) hQ n l a w (Region.free_spec hi h2) (by simpa using h3) (.inl ⟨hg, fun w _ => hy w⟩) hS h
theorem anyT.take {i : Nat} {oi : Oper} {v : Value} {n : Nat} {l : Array Bool} {a : Act} {w : World} (hi0 : ops.toList[i]? = some oi)
    (hc : (Region.noSelect ops && Region.free md ops l i && (Region.ready md ops l).contains i && waitsB t md ops l i) = true)
    (hQ : ∀ c a w, Q (.panic c) (a.put oi.dst v) w → Q (.panic c) a w) (hg : Region.wanted oi (yielded ops a.tmps) = true) (hy : ∀ w, S w → (execOp a.eval oi).run P w = .ok (.value v) w) (hS : S w)
    (h : anyT P md ops Q S t n (l.setIfInBounds i true) (a.put oi.dst v) w) : anyT P md ops Q S t (n + 1) l a w := by
  have hi : ops[i]? = some oi := by rw [← Array.getElem?_toList]; exact hi0
  simp only [Bool.and_eq_true] at hc
  obtain ⟨⟨⟨h1, h2⟩, h3⟩, h4⟩ := hc
  exact anyT.first hi (Region.noSelect_spec h1) hQ n l a w (Region.free_spec hi h2) (by simpa using h3) h4 (.inl ⟨hg, hy⟩) hS h
theorem anyT.step {i : Nat} {oi : Oper} {n : Nat} {l : Array Bool} {a : Act} {w : World} (hi0 : ops.toList[i]? = some oi) (hr : Region.ready md ops l = [i])
    (h : ∀ K' : Act → World → Prop, Shut (∀ a w, (More t (l.setIfInBounds i true) → S w) → ((More t (l.setIfInBounds i true) → S w) → anyT P md ops Q S t n (l.setIfInBounds i true) a w) → K' a w) → if Region.wanted oi (yielded ops a.tmps) = true then Oper.wp P oi a w K' Q else K' (a.put oi.dst undef) w) :
    anyT P md ops Q S t (n + 1) l a w :=
  ⟨fun h0 => absurd (h0.symm.trans hr) (by simp), fun j hj => by
    rw [hr] at hj
    obtain rfl : j = i := by simpa using hj
    exact wpOp_step (by rw [← Array.getElem?_toList]; exact hi0) fun K' hK => h K' fun a w hS hW => hK a w ⟨hS, hW hS⟩⟩
theorem anyT.step2 {i i2 : Nat} {oi oi2 : Oper} {n : Nat} {l : Array Bool} {a : Act} {w : World} (hi0 : ops.toList[i]? = some oi) (hi20 : ops.toList[i2]? = some oi2) (hr : Region.ready md ops l = [i, i2])
    (h : ∀ K' : Act → World → Prop, Shut (∀ a w, (More t (l.setIfInBounds i true) → S w) → ((More t (l.setIfInBounds i true) → S w) → anyT P md ops Q S t n (l.setIfInBounds i true) a w) → K' a w) → if Region.wanted oi (yielded ops a.tmps) = true then Oper.wp P oi a w K' Q else K' (a.put oi.dst undef) w)
    (h2 : ∀ K' : Act → World → Prop, Shut (∀ a w, (More t (l.setIfInBounds i2 true) → S w) → ((More t (l.setIfInBounds i2 true) → S w) → anyT P md ops Q S t n (l.setIfInBounds i2 true) a w) → K' a w) → if Region.wanted oi2 (yielded ops a.tmps) = true then Oper.wp P oi2 a w K' Q else K' (a.put oi2.dst undef) w) :
    anyT P md ops Q S t (n + 1) l a w :=
  ⟨fun h0 => absurd (h0.symm.trans hr) (by simp), fun j hj => by
    rw [hr] at hj
    rcases List.mem_cons.1 hj with rfl | hj
    · exact wpOp_step (by rw [← Array.getElem?_toList]; exact hi0) fun K' hK => h K' fun a w hS hW => hK a w ⟨hS, hW hS⟩
    · obtain rfl : j = i2 := by simpa using hj
      exact wpOp_step (by rw [← Array.getElem?_toList]; exact hi20) fun K' hK => h2 K' fun a w hS hW => hK a w ⟨hS, hW hS⟩⟩
theorem anyT.done {l : Array Bool} {a : Act} {w : World} {n : Nat} (hr : Region.ready md ops l = []) (h : Q .normal a w) : anyT P md ops Q S t n l a w := by
  cases n with
  | zero => exact ⟨hr, h⟩
  | succ n => exact ⟨fun _ => h, fun j hj => (by rw [hr] at hj; cases hj)⟩
theorem not_more {t : Nat} {l : Array Bool} (h : ((List.range t).all fun m => l.getD m true) = true) {p : Prop} : More t l → p := fun ⟨m, hm, hl⟩ => by
  have := List.all_eq_true.1 h m (List.mem_range.2 hm)
  rw [hl] at this; cases this
theorem region_T {id : Nat} {a : Act} {w : World} (hm : P.follows .mixedOrders = true) (t : Nat) (S : World → Prop) (hS : S w.drew)
    (h : S w.drew → anyT P .any ops Q S t ops.size (Array.replicate ops.size false) a w.drew) : (Code.region id ops true).wp P Q a w := wp_region_any hm (anyT.any _ _ _ _ (h hS))
end
end Go.Proofs.YtpjijbophjdgaaaGreat
namespace Go.Proofs.YtpjijbophjdgaaaGreat
open Go.RowKit Go.Deep
end Go.Proofs.YtpjijbophjdgaaaGreat
