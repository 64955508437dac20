/- A region that draws its order, inside a fence and within a round: S is to hold behind an .. -/
import Derived.Test.YteegefnjnikngaaGreatQ7
import Derived.OrdersIn
import Derived.Test.YteegefnjnikngaaGreatQ6
import Derived.Test.YteegefnjnikngaaGreatQ1
import Derived.Test.YteegefnjnikngaaGreatRows
import Derived.WalkKit
import Derived.ProofKit
import Derived.OpenShut
import Derived.ShutString
import Derived.ChangeOld
import Derived.Below
import Derived.Deep.Matrix
import Derived.Lib.SmallJoins
import Derived.Test.YteegefnjnikngaaGreatQ4
import Derived.Test.YteegefnjnikngaaGreatQ3
import Derived.StillTailTactics
set_option maxRecDepth 100000
namespace Go.Proofs.YteegefnjnikngaaGreat
section
open Go.RowKit Go.Deep
section
variable {F : Fence} {n : Nat} {P : Program} {ops : Array Oper} {Q : Exit → Act → World → Prop} {md : Region.Mode} {S : World → Prop} {t : Nat}
structure YR (P : Program) (ops : Array Oper) (S : World → Prop) (o : Oper) (v : Value) (a : Act) : Prop where
 want : Region.wanted o (yielded ops a.tmps) = true
 run : ∀ w, S w → (execOp a.eval o).run P w = .ok (.value v) w
 calm : ∀ w, o.about P w a.eval = none
def oW (ops : Array Oper) : Bool := ops.toList.all fun o => match o.op with | .defer _ => false | _ => true
theorem Dp {ops : Array Oper} (h : oW ops = true) {i : Nat} {o : Oper} (hi : ops[i]? = some o) (r : Option Nat) (ρ : Operand → Value) : Oper.semAt r ρ o = execOp ρ o := by
 refine Oper.semAt_eq r ρ o fun c e => ?_
 have h1 := List.all_eq_true.1 h o (List.mem_of_getElem? (by simpa using hi))
 rw [e] at h1; cases h1
theorem YR.step {i : Nat} {o : Oper} {v : Value} {a : Act} (hd : oW ops = true) (hi : ops[i]? = some o) (hy : YR P ops S o v a) {K : Act → World → Prop} {w : World} (hS : S w) (h : K (a.put o.dst v) w) : wpOpIn F n P ops Q i K a w := by
 unfold wpOpIn
 simp only [hi]
 rw [if_pos hy.want]
 refine ⟨fun f hf => (by rw [hy.calm w] at hf; cases hf), ?_⟩
 rw [Dp hd hi, hy.run w hS]
 exact h
theorem YR.swap {j : Nat} {oi oj : Oper} {v : Value} (hd : oW ops = true) (hj : ops[j]? = some oj) (hap : oi.apart ops oj = true) (hsi : ∀ cs b, oi.op ≠ .select cs b) (hsj : ∀ cs b, oj.op ≠ .select cs b)
  (hQ : ∀ c a w, Q (.panic c) (a.put oi.dst v) w → Q (.panic c) a w) {K : Act → World → Prop} {a : Act} {w : World} (hy : YR P ops S oi v a) (h : wpOpIn F n P ops Q j K (a.put oi.dst v) w) :
  wpOpIn F n P ops Q j (fun a' w' => YR P ops S oi v a' ∧ K (a'.put oi.dst v) w') a w := by
 obtain ⟨h1, h2, h3⟩ := Oper.apart_spec hap
 have stays : ∀ (b : Act) u, YR P ops S oi v b → YR P ops S oi v (b.put oj.dst u) := fun b u hb =>
  ⟨by rw [wanted_put oi b oj.dst u h3]; exact hb.want, fun w hS => by rw [execOp_put oi hsi b oj.dst u h3]; exact hb.run w hS, fun w => by rw [about_put oi w b oj.dst u h3]; exact hb.calm w⟩
 have comm : ∀ u, (a.put oi.dst v).put oj.dst u = (a.put oj.dst u).put oi.dst v := fun u => Act.put_comm a v u h2
 unfold wpOpIn at h ⊢
 simp only [hj] at h ⊢
 rw [wanted_put oj a oi.dst v h1] at h
 by_cases hw : Region.wanted oj (yielded ops a.tmps) = true
 ·rw [if_pos hw] at h ⊢
  obtain ⟨hb, hu⟩ := h
  rw [about_put oj w a oi.dst v h1] at hb
  rw [Dp hd hj, execOp_put oj hsj a oi.dst v h1] at hu
  refine ⟨hb, ?_⟩
  rw [Dp hd hj]
  generalize (execOp a.eval oj).run P w = r at hu ⊢
  rcases r with ⟨x, w'⟩ | ⟨x, w'⟩
  ·cases x with
   | value u => exact ⟨stays a u hy, by rw [← comm]; exact hu⟩
   | skip => exact ⟨stays a undef hy, by rw [← comm]; exact hu⟩
   | defer d =>
    refine ⟨stays { a with defers := d :: a.defers } undef ⟨hy.want, hy.run, hy.calm⟩, ?_⟩
    have e : (({ a with defers := d :: a.defers } : Act).put oj.dst undef).put oi.dst v = ({ (a.put oi.dst v) with defers := d :: (a.put oi.dst v).defers } : Act).put oj.dst undef := by
     rw [← Act.put_comm _ v undef h2, ← Act.put_defers]
    rw [e]; exact hu
   | enter f args =>
    refine ⟨hu.1, CallsIn.mono hu.2 fun e w'' he => ?_⟩
    cases e with
    | returned u => exact ⟨stays a u hy, by rw [← comm]; exact he⟩
    | panicked c => exact hQ _ _ _ he
    | outgrown => exact he
   | row row args => exact ⟨hu.1, RowsIn.mono hu.2 fun u w'' he => ⟨stays a u hy, by rw [← comm]; exact he⟩⟩
   | round l f tmps assign body =>
    refine ⟨hu.1, RoundIn.mono hu.2 fun e w'' he => ?_⟩
    cases e with
    | returned u => exact ⟨stays a u hy, by rw [← comm]; exact he⟩
    | panicked c => exact hQ _ _ _ he
    | outgrown => exact he
   | _ => exact hu
  ·cases x with
   | panic u => exact hQ _ _ _ hu
   | _ => exact hu
 ·rw [if_neg hw] at h ⊢
  exact ⟨by rw [about_put oj w a oi.dst v h1] at h; exact h.1, stays a undef hy, by rw [← comm]; exact h.2⟩
def bE (F : Fence) (n : Nat) (P : Program) (md : Region.Mode) (ops : Array Oper) (Q : Exit → Act → World → Prop) (S : World → Prop) (t : Nat) : Nat → Array Bool → Act → World → Prop
 | 0, l, a, w => Region.ready md ops l = [] ∧ Q .normal a w
 | m + 1, l, a, w => (Region.ready md ops l = [] → Q .normal a w) ∧
  ∀ i ∈ Region.ready md ops l, wpOpIn F n P ops Q i (fun a' w' => (jc t (l.setIfInBounds i true) → S w') ∧ bE F n P md ops Q S t m (l.setIfInBounds i true) a' w') a w
theorem bE.any : ∀ (m : Nat) (l : Array Bool) (a : Act) (w : World), bE F n P md ops Q S t m l a w → wpAnyIn F n P md ops Q m l a w
 | 0, _, _, _, h => h
 | m + 1, _, _, _, h => ⟨h.1, fun i hi => wpOpIn_mono (fun a' w' h' => bE.any m _ a' w' h'.2) (h.2 i hi)⟩
theorem bE.first {i : Nat} {oi : Oper} {v : Value} (hd : oW ops = true) (hi : ops[i]? = some oi) (hsel : ∀ (j : Nat) (o : Oper) cs b, ops[j]? = some o → o.op ≠ .select cs b)
  (hQ : ∀ c a w, Q (.panic c) (a.put oi.dst v) w → Q (.panic c) a w) : ∀ (m : Nat) (l : Array Bool) (a : Act) (w : World),
   (∀ j oj, ops[j]? = some oj → j ≠ i → l.getD j true = false → (∀ e ∈ oj.after, Region.binds md e = true → e.on ≠ i) → oi.apart ops oj = true) →
   i ∈ Region.ready md ops l → waitsB t md ops l i = true → YR P ops S oi v a → S w → bE F n P md ops Q S t m (l.setIfInBounds i true) (a.put oi.dst v) w → bE F n P md ops Q S t (m + 1) l a w := by
 intro m
 induction m with
 | zero =>
  intro l a w _ hr _ hy hS H
  refine ⟨fun h => absurd hr (by rw [h]; simp), fun j hj => ?_⟩
  by_cases hji : j = i
  ·subst hji; exact hy.step hd hi hS ⟨fun _ => hS, H⟩
  ·exact absurd (ready_mono hj hji) (by rw [H.1]; simp)
 | succ m ih =>
  intro l a w hfree hr hwt hy hS H
  refine ⟨fun h => absurd hr (by rw [h]; simp), fun j hj => ?_⟩
  by_cases hji : j = i
  ·subst hji; exact hy.step hd hi hS ⟨fun _ => hS, H⟩
  ·have hun := (mem_ready.1 hr).1
   obtain ⟨sA, oj, k8, hall⟩ := mem_ready.1 hj
   have hnot : ∀ e ∈ oj.after, Region.binds md e = true → e.on ≠ i := fun e he hb heq => by
    have h1 := hall e he hb
    rw [heq] at h1
    by_cases h' : i < l.size
    ·simp [h'] at hun h1; rw [hun] at h1; cases h1
    ·simp [h'] at h1
   have h2 := hy.swap hd k8 (hfree j oj k8 hji sA hnot) (fun cs b => hsel i oi cs b hi) (fun cs b => hsel j oj cs b k8) hQ (H.2 j (ready_mono hj hji))
   have hir : i ∈ Region.ready md ops (l.setIfInBounds j true) := ready_mono hr (Ne.symm hji)
   refine wpOpIn_mono (fun a' w' h3 => ?_) h2
   have sD : ∀ k ok, ops[k]? = some ok → k ≠ i → (l.setIfInBounds j true).getD k true = false → (∀ e ∈ ok.after, Region.binds md e = true → e.on ≠ i) → oi.apart ops ok = true := fun k ok hk hki yf hno => by
    refine hfree k ok hk hki ?_ hno
    by_cases hjk : j = k
    ·rw [← hjk]; exact sA
    ·rw [getD_set_ne true hjk] at yf; exact yf
   have hcm : (l.setIfInBounds i true).setIfInBounds j true = (l.setIfInBounds j true).setIfInBounds i true := Array.setIfInBounds_comm _ _ (Ne.symm hji)
   obtain ⟨k, dY, hk⟩ := List.any_eq_true.1 hwt
   have dY := List.mem_range.1 dY
   simp only [Bool.and_eq_true, Bool.not_eq_true'] at hk
   obtain ⟨hk1, hk2⟩ := hk
   obtain ⟨ok', Eo⟩ : ∃ o, ops[k]? = some o := by
    cases h : ops[k]? with
    | none => rw [h] at hk2; cases hk2
    | some o => exact ⟨o, rfl⟩
   rw [Eo] at hk2
   obtain ⟨x, hx, e, OH⟩ := (by simpa using Array.any_eq_true.1 hk2 : ∃ x, ∃ (hx : x < ok'.after.size), Region.binds md ok'.after[x] = true ∧ ok'.after[x].on = i)
   have hkj : k ≠ j := fun e2 => by
    subst e2
    rw [Eo] at k8
    injection k8 with k8
    refine hnot ok'.after[x] ?_ e OH
    rw [← k8]; exact Array.getElem_mem hx
   have hki : k ≠ i := fun e2 => by
    subst e2
    obtain ⟨_, o3, yg, h4⟩ := mem_ready.1 hr
    rw [Eo] at yg
    injection yg with yg
    have h5 := h4 ok'.after[x] (by rw [← yg]; exact Array.getElem_mem hx) e
    rw [OH] at h5
    by_cases h' : k < l.size
    ·simp [h'] at hun h5; rw [hun] at h5; cases h5
    ·simp [h'] at h5
   have OI : S w' := h3.2.1 ⟨k, dY, by rw [getD_set_ne true (Ne.symm hkj), getD_set_ne true (Ne.symm hki)]; exact hk1⟩
   have RM : waitsB t md ops (l.setIfInBounds j true) i = true := List.any_eq_true.2 ⟨k, List.mem_range.2 dY, by
    rw [getD_set_ne true (Ne.symm hkj), hk1, Eo]; simpa using hk2⟩
   exact ⟨fun _ => OI, ih _ a' w' sD hir RM h3.1 OI (by rw [← hcm]; exact h3.2.2)⟩
theorem bE.MG {i : Nat} {oi : Oper} {v : Value} (hti : t ≤ i) (hd : oW ops = true) (hi : ops[i]? = some oi) (hsel : ∀ (j : Nat) (o : Oper) cs b, ops[j]? = some o → o.op ≠ .select cs b)
  (hQ : ∀ c a w, Q (.panic c) (a.put oi.dst v) w → Q (.panic c) a w) : ∀ (m : Nat) (l : Array Bool) (a : Act) (w : World),
   (∀ j oj, ops[j]? = some oj → j ≠ i → l.getD j true = false → (∀ e ∈ oj.after, Region.binds md e = true → e.on ≠ i) → oi.apart ops oj = true) →
   i ∈ Region.ready md ops l → YR P ops (fun _ => True) oi v a → (jc t (l.setIfInBounds i true) → S w) → bE F n P md ops Q S t m (l.setIfInBounds i true) (a.put oi.dst v) w → bE F n P md ops Q S t (m + 1) l a w := by
 intro m
 induction m with
 | zero =>
  intro l a w _ hr hy hS H
  refine ⟨fun h => absurd hr (by rw [h]; simp), fun j hj => ?_⟩
  by_cases hji : j = i
  ·subst hji; exact hy.step hd hi trivial ⟨hS, H⟩
  ·exact absurd (ready_mono hj hji) (by rw [H.1]; simp)
 | succ m ih =>
  intro l a w hfree hr hy hS H
  refine ⟨fun h => absurd hr (by rw [h]; simp), fun j hj => ?_⟩
  by_cases hji : j = i
  ·subst hji; exact hy.step hd hi trivial ⟨hS, H⟩
  ·have hun := (mem_ready.1 hr).1
   obtain ⟨sA, oj, k8, hall⟩ := mem_ready.1 hj
   have hnot : ∀ e ∈ oj.after, Region.binds md e = true → e.on ≠ i := fun e he hb heq => by
    have h1 := hall e he hb
    rw [heq] at h1
    by_cases h' : i < l.size
    ·simp [h'] at hun h1; rw [hun] at h1; cases h1
    ·simp [h'] at h1
   have h2 := hy.swap hd k8 (hfree j oj k8 hji sA hnot) (fun cs b => hsel i oi cs b hi) (fun cs b => hsel j oj cs b k8) hQ (H.2 j (ready_mono hj hji))
   have hir : i ∈ Region.ready md ops (l.setIfInBounds j true) := ready_mono hr (Ne.symm hji)
   refine wpOpIn_mono (fun a' w' h3 => ?_) h2
   have sD : ∀ k ok, ops[k]? = some ok → k ≠ i → (l.setIfInBounds j true).getD k true = false → (∀ e ∈ ok.after, Region.binds md e = true → e.on ≠ i) → oi.apart ops ok = true := fun k ok hk hki yf hno => by
    refine hfree k ok hk hki ?_ hno
    by_cases hjk : j = k
    ·rw [← hjk]; exact sA
    ·rw [getD_set_ne true hjk] at yf; exact yf
   have hcm : (l.setIfInBounds i true).setIfInBounds j true = (l.setIfInBounds j true).setIfInBounds i true := Array.setIfInBounds_comm _ _ (Ne.symm hji)
   have hmo : jc t (l.setIfInBounds j true) → S w' := fun ⟨k, hk, dY⟩ => h3.2.1 ⟨k, hk, by
    rw [hcm, getD_set_ne true (by omega)]; exact dY⟩
   refine ⟨hmo, ih _ a' w' sD hir h3.1 (fun ⟨k, hk, dY⟩ => hmo ⟨k, hk, ?_⟩) (by rw [← hcm]; exact h3.2.2)⟩
   rw [getD_set_ne true (by omega)] at dY; exact dY
theorem bE.free {i : Nat} {oi : Oper} {v : Value} {m : Nat} {l : Array Bool} {a : Act} {w : World} (kR : ops.toList[i]? = some oi)
  (hc : (decide (t ≤ i) && oW ops && Region.noSelect ops && Region.free md ops l i && (Region.ready md ops l).contains i) = true)
  (hQ : ∀ c a w, Q (.panic c) (a.put oi.dst v) w → Q (.panic c) a w) (hg : Region.wanted oi (yielded ops a.tmps) = true) (hb : ∀ w, oi.about P w a.eval = none) (hy : ∀ w, (execOp a.eval oi).run P w = .ok (.value v) w) (hS : jc t (l.setIfInBounds i true) → S w)
  (h : bE F n P md ops Q S t m (l.setIfInBounds i true) (a.put oi.dst v) w) : bE F n P md ops Q S t (m + 1) l a w := by
 have hi : ops[i]? = some oi := by rw [← Array.getElem?_toList]; exact kR
 simp only [Bool.and_eq_true, decide_eq_true_eq] at hc
 obtain ⟨⟨⟨⟨h0, h4⟩, h1⟩, h2⟩, h3⟩ := hc
 exact bE.MG h0 h4 hi (Region.noSelect_spec h1) hQ m l a w (Region.free_spec hi h2) (by simpa using h3) ⟨hg, fun w _ => hy w, hb⟩ hS h
theorem bE.take {i : Nat} {oi : Oper} {v : Value} {m : Nat} {l : Array Bool} {a : Act} {w : World} (kR : ops.toList[i]? = some oi)
  (hc : (oW ops && Region.noSelect ops && Region.free md ops l i && (Region.ready md ops l).contains i && waitsB t md ops l i) = true)
  (hQ : ∀ c a w, Q (.panic c) (a.put oi.dst v) w → Q (.panic c) a w) (hg : Region.wanted oi (yielded ops a.tmps) = true) (hb : ∀ w, oi.about P w a.eval = none) (hy : ∀ w, S w → (execOp a.eval oi).run P w = .ok (.value v) w) (hS : S w)
  (h : bE F n P md ops Q S t m (l.setIfInBounds i true) (a.put oi.dst v) w) : bE F n P md ops Q S t (m + 1) l a w := by
 have hi : ops[i]? = some oi := by rw [← Array.getElem?_toList]; exact kR
 simp only [Bool.and_eq_true] at hc
 obtain ⟨⟨⟨⟨h0, h1⟩, h2⟩, h3⟩, h4⟩ := hc
 exact bE.first h0 hi (Region.noSelect_spec h1) hQ m l a w (Region.free_spec hi h2) (by simpa using h3) h4 ⟨hg, hy, hb⟩ hS h
theorem bE.step {i : Nat} {oi : Oper} {m : Nat} {l : Array Bool} {a : Act} {w : World} (kR : ops.toList[i]? = some oi) (hr : Region.ready md ops l = [i])
  (h : ∀ K' : Act → World → Prop, Shut (∀ a w, (jc t (l.setIfInBounds i true) → S w) → ((jc t (l.setIfInBounds i true) → S w) → bE F n P md ops Q S t m (l.setIfInBounds i true) a w) → K' a w) → if Region.wanted oi (yielded ops a.tmps) = true then Oper.wpIn F n P oi a w K' Q else (∀ f, oi.about P w a.eval = some f → F.fn f) ∧ K' (a.put oi.dst undef) w) :
  bE F n P md ops Q S t (m + 1) l a w :=
 ⟨fun h0 => absurd (h0.symm.trans hr) (by simp), fun j hj => by
  rw [hr] at hj
  obtain rfl : j = i := by simpa using hj
  exact wpOpIn_step (by rw [← Array.getElem?_toList]; exact kR) fun K' hK => h K' fun a w hS hW => hK a w ⟨hS, hW hS⟩⟩
theorem bE.wh {i i2 : Nat} {oi zT : Oper} {m : Nat} {l : Array Bool} {a : Act} {w : World} (kR : ops.toList[i]? = some oi) (RN : ops.toList[i2]? = some zT) (hr : Region.ready md ops l = [i, i2])
  (h : ∀ K' : Act → World → Prop, Shut (∀ a w, (jc t (l.setIfInBounds i true) → S w) → ((jc t (l.setIfInBounds i true) → S w) → bE F n P md ops Q S t m (l.setIfInBounds i true) a w) → K' a w) → if Region.wanted oi (yielded ops a.tmps) = true then Oper.wpIn F n P oi a w K' Q else (∀ f, oi.about P w a.eval = some f → F.fn f) ∧ K' (a.put oi.dst undef) w)
  (h2 : ∀ K' : Act → World → Prop, Shut (∀ a w, (jc t (l.setIfInBounds i2 true) → S w) → ((jc t (l.setIfInBounds i2 true) → S w) → bE F n P md ops Q S t m (l.setIfInBounds i2 true) a w) → K' a w) → if Region.wanted zT (yielded ops a.tmps) = true then Oper.wpIn F n P zT a w K' Q else (∀ f, zT.about P w a.eval = some f → F.fn f) ∧ K' (a.put zT.dst undef) w) :
  bE F n P md ops Q S t (m + 1) l a w :=
 ⟨fun h0 => absurd (h0.symm.trans hr) (by simp), fun j hj => by
  rw [hr] at hj
  rcases List.mem_cons.1 hj with rfl | hj
  ·exact wpOpIn_step (by rw [← Array.getElem?_toList]; exact kR) fun K' hK => h K' fun a w hS hW => hK a w ⟨hS, hW hS⟩
  ·obtain rfl : j = i2 := by simpa using hj
   exact wpOpIn_step (by rw [← Array.getElem?_toList]; exact RN) fun K' hK => h2 K' fun a w hS hW => hK a w ⟨hS, hW hS⟩⟩
theorem bE.done {l : Array Bool} {a : Act} {w : World} {m : Nat} (hr : Region.ready md ops l = []) (h : Q .normal a w) : bE F n P md ops Q S t m l a w := by
 cases m with
 | zero => exact ⟨hr, h⟩
 | succ m => exact ⟨fun _ => h, fun j hj => (by rw [hr] at hj; cases hj)⟩
theorem RP {id : Nat} {a : Act} {w : World} (hm : P.follows .mixedOrders = true) (t : Nat) (S : World → Prop) (hS : S w.drew)
  (h : S w.drew → bE F n P .any ops Q S t ops.size (Array.replicate ops.size false) a w.drew) : (Code.region id ops true).wpIn F n P Q a w := wpIn_region_any hm (bE.any _ _ _ _ (h hS))
end
end
section
open Go.RowKit Go.Shelf Go.Deep
section
variable {P : Program} {C : World → Prop}
end
end
section
open Go.RowKit Go.Deep
def Up (w w' : World) : Prop := Below w.heap.size w w'
theorem Up.refl (w : World) : Up w w := Below.refl _ _
theorem Up.trans {a b c : World} (h : Up a b) (k : Up b c) : Up a c := Below.trans h (Below.mono k h.size)
theorem Up.alloc (w : World) (o : Obj) : Up w (w.alloc o) := (Below.refl _ _).alloc (Nat.le_refl _) _
theorem Up.drewN (w : World) (n : Nat) : Up w (w.drewN n) := below_drewN (Below.refl _ _) n
theorem Up.kept {w w' : World} (h : Up w w') (S : Nat → Prop) : Kept S w w' := Kept.below h
theorem Up.size {w w' : World} (h : Up w w') : w.heap.size ≤ w'.heap.size := Below.size h
theorem Up.cell {w w' : World} (h : Up w w') {p : Addr} {v : Value} (hc : w.cell? p = some v) : w'.cell? p = some v := by
 obtain ⟨b, o, i⟩ := p
 have hl : b < w.heap.size := World.block_lt_of_cell? w _ hc
 rw [Below.cell h (p := ⟨b, o, i⟩) hl]; exact hc
theorem ew (w : World) (P N : Value) (T : TypeId) : (w.alloc (.cells #[P, N] T)).cell? ⟨w.heap.size, 0, none⟩ = some P := by simp [World.cell?_alloc_new]
theorem ey (w : World) (P N : Value) (T : TypeId) : (w.alloc (.cells #[P, N] T)).cell? ⟨w.heap.size, 1, none⟩ = some N := by simp [World.cell?_alloc_new]
theorem uW (w : World) (P : Value) (T : TypeId) : (w.alloc (.cells #[P] T)).cell? ⟨w.heap.size, 0, none⟩ = some P := by simp [World.cell?_alloc_new]
theorem V1 (S : Nat → Prop) (w : World) (v vs vc : Value) (t : ax) (st : List Int) (cs : List (List Int)) (hT : aC S w v t) (hS : aB S w vs st) (hC : bh S w vc cs)
  (hz : ∀ k, (gs t.ns k).size ≤ 70000) (hv : Valid t st cs) : Calls Tryz.prog 183 #[v, vs, vc] w (BV w (nW t st cs)) := by
 obtain ⟨h1, h2, h3, hok, hn⟩ := aH hv.tree
 obtain ⟨m1, m2, m3, m4, m5⟩ := uv hv.T7
 have hl := ux t.ns
 exact V0 S w v vs vc t st cs hT hS hC hv.tree (by omega) hz h2 m2 m1 (Nat.le_of_eq hv.len.symm) m3 m4 (fun j s hj => hv.tb j s hj) (by omega)
theorem fL {S : Nat → Prop} {w : World} {v : Value} {xs : List (List Int)} (h : bh S w v xs) : ∃ p cap, v = .slice p xs.length cap ∧ xs.length ≤ cap ∧
  ∀ k, k < xs.length → ∃ b off q c, p = some ⟨b, off, none⟩ ∧ w.cell? ⟨b, off + k, none⟩ = some (.slice q (gl xs k).length c) ∧ aB S w (.slice q (gl xs k).length c) (gl xs k) := by
 obtain ⟨f, ij, hr⟩ := h
 obtain ⟨p, cap, rfl, hcap, H⟩ := aD.open ij
 refine ⟨p, cap, rfl, hcap, fun k hk => ?_⟩
 obtain ⟨b, off, rfl, hc⟩ := H k hk
 have h1 := hr k hk
 obtain ⟨q, c, e, _, _⟩ := aD.open h1
 rw [e] at hc h1
 exact ⟨b, off, q, c, rfl, hc, h1⟩
theorem eE {S : Nat → Prop} {w : World} {p : Option Addr} {n cap : Nat} {xs : List Int} (h : aB S w (.slice p n cap) xs) {k : Nat} (hk : k < xs.length) : ∃ b off, p = some ⟨b, off, none⟩ ∧ w.cell? ⟨b, off + k, none⟩ = some (.int .i64 (gi xs k)) := by
 obtain ⟨q, c, e, _, H⟩ := aD.open h
 injection e with e1
 subst e1
 exact H k hk
theorem cu {S : Nat → Prop} {w : World} {p : Option Addr} {n cap : Nat} {xs : List ByteArray} (h : av S w (.slice p n cap) xs) {k : Nat} (hk : k < xs.length) : ∃ b off, p = some ⟨b, off, none⟩ ∧ w.cell? ⟨b, off + k, none⟩ = some (.string (gs xs k)) := by
 obtain ⟨q, c, e, _, H⟩ := aD.open h
 injection e with e1
 subst e1
 exact H k hk
theorem jd {S : Nat → Prop} {w : World} {p : Option Addr} {n cap : Nat} {xs : List (List Int)} (h : bh S w (.slice p n cap) xs) {k : Nat} (hk : k < xs.length) :
  ∃ b off q c, p = some ⟨b, off, none⟩ ∧ w.cell? ⟨b, off + k, none⟩ = some (.slice q (gl xs k).length c) ∧ aB S w (.slice q (gl xs k).length c) (gl xs k) := by
 obtain ⟨q, c, e, _, H⟩ := fL h
 injection e with e1
 subst e1
 exact H k hk
theorem OL {S : Nat → Prop} {w : World} {b off : Nat} {n cap : Nat} {xs : List Int} (h : aB S w (.slice (some ⟨b, off, none⟩) n cap) xs) {k : Nat} (hk : k < xs.length) : w.cell? ⟨b, off + k, none⟩ = some (.int .i64 (gi xs k)) := by
 obtain ⟨b', o', e, hc⟩ := eE h hk
 injection e with e
 injection e with e1 e2
 subst e1; subst e2; exact hc
theorem V2 (t : ax) (st : List Int) (cs : List (List Int)) {k : Nat} (hk : k < t.ps.length) : gl (nW t st cs) k = aV t st cs k := by simp [gl, nW, hk]
theorem GM (t : ax) (st : List Int) (cs : List (List Int)) : (nW t st cs).length = t.ps.length := by simp [nW]
end
section
open Go.ChangeShapes Go.WideShapes Go.ChangeAt Go.RowKit Go.Deep
theorem RQ : ownKnob Tryz.prog.godebug = none := by kernel_rfl
theorem laidOut : laidOutB Tryz.prog = true := by kernel_rfl
section
variable {H : Type} {enc : TypeId × Value → H} {W : World}
theorem zj {n : Nat} (h : n ≤ maxLen) : n ≤ 9223372036854775807 := by unfold maxLen at h; exact h
theorem MH {fuel : Nat} {v : Value} {x : DataW H × List MemPlace} (h : DataW.trod enc Tryz.prog W 0 (fun _ => true) true fuel 22 [v] = some x) : ∃ xs : List ByteArray, av Any W v xs ∧ xs.length ≤ 9223372036854775807 ∧ ∀ k, (gs xs k).size ≤ 9223372036854775807 := by
 rcases open_strings Tryz.underlying22 Tryz.underlying9 (by kernel_rfl) h with ⟨hcs, _⟩ | ⟨a, l, c, zs, hcs, _, hl, hm, hz, _, hcell, hwf⟩
 ·obtain rfl : v = .slice none 0 0 := by simpa using hcs
  exact ⟨[], ⟨none, 0, rfl, Nat.le_refl _, .inl rfl⟩, by simp, fun k => by simp [gs]⟩
 ·obtain rfl : v = .slice (some a) l c := by simpa using hcs
  simp only [if_true] at hz
  have hlen : (zs.take l).length = l := by simp; omega
  refine ⟨zs.take l, ⟨some a, c, by rw [hlen], by rw [hlen]; exact hl, ?_⟩, by rw [hlen]; exact zj (Nat.le_trans hl hm), fun k => ?_⟩
  ·by_cases h0 : l = 0
   ·exact .inl (by rw [hlen]; exact h0)
   ·obtain ⟨b, off, spot⟩ := a
    have hspot : spot = none := by simpa [Addr.add] using World.cell?_spot (hcell 0 (by omega))
    subst hspot
    refine .inr ⟨b, off, rfl, trivial, fun k hk => ?_⟩
    rw [hlen] at hk
    rw [← add_plain, hcell k (by omega)]
    have hk2 : k < zs.length := by omega
    simp [gs, hk, hk2]
  ·by_cases hk : k < (zs.take l).length
   ·have hm : gs (zs.take l) k ∈ zs := by
     have : gs (zs.take l) k = (zs.take l)[k] := by unfold gs; rw [List.getD_eq_getElem?_getD, List.getElem?_eq_getElem hk]; rfl
     rw [this]; exact List.mem_of_mem_take (List.getElem_mem hk)
    exact zj (hwf _ hm)
   ·have : gs (zs.take l) k = ByteArray.empty := by simp [gs, List.getElem?_eq_none (by omega : (zs.take l).length ≤ k)]
    rw [this]; simp
theorem MI {fuel : Nat} {v : Value} {x : DataW H × List MemPlace} (h : DataW.trod enc Tryz.prog W 0 (fun _ => true) true fuel 23 [v] = some x) : ∃ xs : List (List Int), bh Any W v xs ∧ xs.length ≤ 9223372036854775807 ∧ ∀ k, (gl xs k).length ≤ 9223372036854775807 := by
 rcases open_int_rows Tryz.underlying23 Tryz.underlying26 Tryz.underlying3 (by kernel_rfl) (by kernel_rfl) h with ⟨hcs, _⟩ | ⟨a, l, c, A, L, C, Z, hcs, _, hl, hm, _, hr⟩
 ·obtain rfl : v = .slice none 0 0 := by simpa using hcs
  exact ⟨[], ⟨fun _ => undef, ⟨none, 0, rfl, Nat.le_refl _, .inl rfl⟩, fun k hk => absurd hk (Nat.not_lt_zero _)⟩, by simp, fun k => by simp [gl]⟩
 ·obtain rfl : v = .slice (some a) l c := by simpa using hcs
  have hlen : ((List.range l).map fun r => (Z r).take (L r)).length = l := by simp
  have tN : ∀ k, k < l → gl ((List.range l).map fun r => (Z r).take (L r)) k = (Z k).take (L k) := fun k hk => by simp [gl, hk]
  have BW : ∀ k, k < l → ((Z k).take (L k)).length = L k := fun k hk => by obtain ⟨_, h1, _, h3, _⟩ := hr k (by omega); simp; omega
  refine ⟨(List.range l).map fun r => (Z r).take (L r), ⟨fun k => .slice (A k) (L k) (C k), ⟨some a, c, by rw [hlen], by rw [hlen]; exact hl, ?_⟩, fun k hk => ?_⟩, by rw [hlen]; exact zj (Nat.le_trans hl hm), fun k => ?_⟩
  ·by_cases h0 : l = 0
   ·exact .inl (by rw [hlen]; exact h0)
   ·obtain ⟨b, off, spot⟩ := a
    have hspot : spot = none := by simpa [Addr.add] using World.cell?_spot (hr 0 (by omega)).1
    subst hspot
    refine .inr ⟨b, off, rfl, trivial, fun k hk => ?_⟩
    rw [hlen] at hk
    rw [← add_plain]; exact (hr k (by omega)).1
  ·rw [hlen] at hk
   obtain ⟨_, h1, h2, h3, _, h5, h6⟩ := hr k (by omega)
   rw [tN k hk]
   refine ⟨A k, C k, by rw [BW k hk], by rw [BW k hk]; exact h1, ?_⟩
   by_cases h0 : L k = 0
   ·exact .inl (by rw [BW k hk]; exact h0)
   ·cases hA : A k with
    | none => have := h5 hA; omega
    | some a' =>
     obtain ⟨_, h7⟩ := h6 a' hA
     obtain ⟨b, off, rfl, hc⟩ := ints_at (zs := Z k) (k := .i64) (fun i hi => h7 i (by omega)) (by omega)
     refine .inr ⟨b, off, rfl, trivial, fun j hj => ?_⟩
     rw [BW k hk] at hj
     rw [hc j (by omega)]
     simp [gi, hj]
  ·by_cases hk : k < l
   ·rw [tN k hk, BW k hk]
    obtain ⟨_, h1, h2, _⟩ := hr k (by omega)
    exact zj (Nat.le_trans h1 h2)
   ·have : gl ((List.range l).map fun r => (Z r).take (L r)) k = [] := by simp [gl, hk]
    rw [this]; simp
theorem GN {t : TypeId} {v : Value} {d : DataW H} {p : List MemPlace} (h1 : v.cells = #[v]) (h : DataW.Trod enc Tryz.prog W 0 (fun _ => true) true t v d p) : ∃ fuel, DataW.trod enc Tryz.prog W 0 (fun _ => true) true fuel t [v] = some (d, p) := by
 obtain ⟨n, hn⟩ := h
 rw [h1] at hn; exact ⟨n, hn⟩
theorem F0 {t : TypeId} {v : Value} {d : DataW H} {p : List MemPlace} (h : DataW.Trod enc Tryz.prog W 0 (fun _ => true) true t v d p) : ∀ x ∈ p, x.block < W.heap.size := by
 obtain ⟨m, hm⟩ := h; exact DataW.trod_lt m _ _ _ hm
theorem MJ {v : Value} {d : DataW H} {p : List MemPlace} {base : Nat} (hv : Value.okWide Tryz.prog W .any base 23 v) (h : DataW.Trod enc Tryz.prog W 0 (fun _ => true) true 23 v d p) : ∃ xs : List (List Int), bh Any W v xs ∧ xs.length ≤ 9223372036854775807 ∧ ∀ k, (gl xs k).length ≤ 9223372036854775807 := by
 obtain ⟨a, l, c, rfl⟩ := okWide_slice Tryz.underlying23 hv
 obtain ⟨n, hn⟩ := GN rfl h
 exact MI hn
end
end
section
open Go.RowKit Go.Deep
section
variable {P : Program} {ops : Array Oper} {rest : List Oper} {o : Oper} {a : Act} {Q : Exit → Act → World → Prop}
end
end
section
open Go.RowKit Go.Deep
def jv (xs : List (List Int)) (k : Nat) : Int := if (gl xs k).length ≠ (gl xs 0).length then 9 else if iP (gl xs k) (-1) 16 then 2 else 0
def cB (xs : List (List Int)) : Int := if xs.length = 0 then 5 else if 32 < xs.length ∨ 4096 < (gl xs 0).length then 4 else firstNZ (jv xs) xs.length
set_option maxHeartbeats 400000 in
theorem MK (w : World) (x : Int) : AK 135 #[] #[.int .i64 x] (.bool (decide (x < -1) || decide (16 ≤ x))) w := by
 unfold AK
 go_enter Tryz.func135, Tryz.ntmps135
 by_cases hx : x < -1
 ·go_wp2_with fail
  go_ret
  exact ⟨bw (by simp [hx]), rfl⟩
 ·go_wp2_with fail
  go_ret
  exact ⟨bw (by simp; omega), rfl⟩
set_option maxHeartbeats 1000000 in
theorem Ep (S : Nat → Prop) (w : World) (v : Value) (xs : List (List Int)) (h : bh S w v xs) (hn : xs.length ≤ 1000000) (hr : ∀ k, (gl xs k).length ≤ 1000000) :
  Calls Tryz.prog 75 #[v] w fun e w' => e = .returned (.int .i64 (cB xs)) ∧ w = w' := by
 have dG : cB xs = if xs.length = 0 then 5 else if 32 < xs.length ∨ 4096 < (gl xs 0).length then 4 else firstNZ (jv xs) xs.length := rfl
 have HF := aa dG
 obtain ⟨p, cap, rfl, hcap, _⟩ := fL h
 have H := aa h
 clear dG h
 by_cases h0 : xs.length = 0
 ·have HX : Hid (xs.length = 0) := h0
  have h0' : ((xs.length : Int) == 0) = true := by simp [h0]
  clear h0
  go_enter Tryz.func75, Tryz.ntmps75
  go_wp2_with fail
  go_ret
  exact ⟨aO (by rw [HF.out, if_pos HX.out]), rfl⟩
 have h0' : ((xs.length : Int) == 0) = false := by simpa using h0
 have Ya : 0 < xs.length := by omega
 by_cases h1 : 32 < xs.length
 ·go_enter Tryz.func75, Tryz.ntmps75
  go_wp2_with fail
  go_ret
  exact ⟨aO (by rw [HF.out, if_neg h0, if_pos (.inl h1)]), rfl⟩
 obtain ⟨b, off, q0, c0, rfl, hc0, kR⟩ := jd H.out Ya
 have RR : w.cell? ⟨b, off, none⟩ = some (.slice q0 (gl xs 0).length c0) := by simpa using hc0
 have hlen0 := hr 0
 clear hc0 kR
 by_cases h2 : 4096 < (gl xs 0).length
 ·go_enter Tryz.func75, Tryz.ntmps75
  go_wp2_with fail
  go_ret
  exact ⟨aO (by rw [HF.out, if_neg h0, if_pos (.inr h2)]), rfl⟩
 have qZ : Hid (cB xs = firstNZ (jv xs) xs.length) := by unfold Hid; rw [HF.out, if_neg h0, if_neg (by omega)]
 have HR := aa hr
 have OM : Hid (∀ k, jv xs k = if (gl xs k).length ≠ (gl xs 0).length then 9 else if iP (gl xs k) (-1) 16 then 2 else 0) := fun _ => rfl
 clear HF hr
 generalize (gl xs 0).length = l0 at *
 go_enter Tryz.func75, Tryz.ntmps75
 go_wp2_with fail
 go_loop [4, 22] (fun _ i => ∃ k : Nat, k ≤ xs.length ∧ i = .int .i64 k ∧ Hid (∀ j, j < k → jv xs j = 0)) (fun _ i => xs.length - (intOf i).toNat)
 case atStart => exact ⟨0, Nat.zero_le _, rfl, fun j hj => absurd hj (Nat.not_lt_zero _)⟩
 case round =>
  obtain ⟨k, hk, rfl, hd⟩ := hrel
  by_cases hlt : k < xs.length
  ·obtain ⟨b', off', qk, ck, e1, nh, hik⟩ := jd H.out hlt
   injection e1 with e1
   injection e1 with e1 e2
   subst e1; subst e2
   have zV := aa (BK 135 #[] (enters_of Tryz.func135 (by kernel_rfl) rfl) S w _ (gl xs k).length _ (fun j => decide (gi (gl xs k) j < -1) || decide (16 ≤ gi (gl xs k) j)) hik (HR.out k) (fun j _ => MK w (gi (gl xs k) j)))
   have ct : Hid (iP (gl xs k) (-1) 16 = (List.range (gl xs k).length).any fun j => decide (gi (gl xs k) j < -1) || decide (16 ≤ gi (gl xs k) j)) := rfl
   have HK := aa (OM.out k)
   clear hik
   by_cases qx : (gl xs k).length = l0
   ·have gK : (((gl xs k).length : Int) != (l0 : Int)) = false := by simp [qx]
    have dF := aa qx
    clear qx
    go_wp2_with fail
    refine zV.out.mono ?_
    rintro e w' ⟨rfl, rfl⟩
    rw [← ct.out]
    by_cases oI : iP (gl xs k) (-1) 16 = true
    ·have uU := aa oI
     rw [oI]
     clear oI
     go_wp2_with fail
     go_ret
     have zW : jv xs k = 2 := by rw [HK.out, if_neg (fun e => e dF.out), if_pos uU.out]
     exact ⟨aO (by rw [qZ.out, fZ hlt hd.out (by rw [zW]; decide), zW]), rfl⟩
    ·have OO : iP (gl xs k) (-1) 16 = false := by simpa using oI
     have uU := aa oI
     rw [OO]
     clear oI OO
     go_wp2_with fail
     go_round
     case rel => exact ⟨k + 1, by omega, by go_num, fun j hj => if e : j = k then by subst e; rw [HK.out, if_neg (fun e => e dF.out), if_neg uU.out] else hd.out j (by omega)⟩
     case measure => simp [intOf]; omega
   ·have gK : (((gl xs k).length : Int) != (l0 : Int)) = true := by simp; omega
    have dF := aa qx
    clear qx
    go_wp2_with fail
    go_ret
    have zW : jv xs k = 9 := by rw [HK.out, if_pos dF.out]
    exact ⟨aO (by rw [qZ.out, fZ hlt hd.out (by rw [zW]; decide), zW]), rfl⟩
  ·obtain rfl : k = xs.length := by omega
   clear hlt
   go_wp2_with fail
   go_ret
   exact ⟨aO (by rw [qZ.out, eN hd.out]), rfl⟩
end
section
open Go.RowKit Go.Deep
theorem RU (S : Nat → Prop) (w : World) : bh S w (.slice none 0 0) [] := ⟨fun _ => undef, ⟨none, 0, rfl, Nat.le_refl _, .inl rfl⟩, fun _ hk => absurd hk (Nat.not_lt_zero _)⟩
end
section
open Go.RowKit Go.Deep
end
end Go.Proofs.YteegefnjnikngaaGreat
