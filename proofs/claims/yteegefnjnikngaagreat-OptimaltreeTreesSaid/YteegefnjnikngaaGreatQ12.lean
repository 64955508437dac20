/- A region that draws its order, inside a fence and within a round: S is to hold behind an .. -/
import Derived.Test.YteegefnjnikngaaGreatQ1
import Derived.Test.YteegefnjnikngaaGreatQ8
import Derived.OrdersIn
import Derived.Test.YteegefnjnikngaaGreatQ3
import Derived.Test.YteegefnjnikngaaGreatQ6
set_option maxRecDepth 100000
namespace Go.Proofs.YteegefnjnikngaaGreat
section
open Go.RowKit Go.Deep
section
variable {F : Fence} {n : Nat} {P : Program} {ops : Array Oper} {Q : Exit → Act → World → Prop} {md : Region.Mode} {S : World → Prop} {t : Nat}
structure YR (P : Program) (ops : Array Oper) (S : World → Prop) (o : Oper) (v : Value) (a : Act) : Prop where
 want : Region.wanted o (yielded ops a.tmps) = true
 run : ∀ w, S w → (execOp a.eval o).run P w = .ok (.value v) w
 calm : ∀ w, o.about P w a.eval = none
def l8 (ops : Array Oper) : Bool := ops.toList.all fun o => match o.op with | .defer _ => false | _ => true
theorem zG {ops : Array Oper} (h : l8 ops = true) {i : Nat} {o : Oper} (hi : ops[i]? = some o) (r : Option Nat) (ρ : Operand → Value) : Oper.semAt r ρ o = execOp ρ o := by
 refine Oper.semAt_eq r ρ o fun c e => ?_
 have h1 := List.all_eq_true.1 h o (List.mem_of_getElem? (by simpa using hi))
 rw [e] at h1; cases h1
theorem YR.step {i : Nat} {o : Oper} {v : Value} {a : Act} (hd : l8 ops = true) (hi : ops[i]? = some o) (hy : YR P ops S o v a) {K : Act → World → Prop} {w : World} (hS : S w) (h : K (a.put o.dst v) w) : wpOpIn F n P ops Q i K a w := by
 unfold wpOpIn
 simp only [hi]
 rw [if_pos hy.want]
 refine ⟨fun f hf => (by rw [hy.calm w] at hf; cases hf), ?_⟩
 rw [zG hd hi, hy.run w hS]
 exact h
theorem YR.swap {j : Nat} {oi oj : Oper} {v : Value} (hd : l8 ops = true) (hj : ops[j]? = some oj) (hap : oi.apart ops oj = true) (hsi : ∀ cs b, oi.op ≠ .select cs b) (hsj : ∀ cs b, oj.op ≠ .select cs b)
  (hQ : ∀ c a w, Q (.panic c) (a.put oi.dst v) w → Q (.panic c) a w) {K : Act → World → Prop} {a : Act} {w : World} (hy : YR P ops S oi v a) (h : wpOpIn F n P ops Q j K (a.put oi.dst v) w) :
  wpOpIn F n P ops Q j (fun a' w' => YR P ops S oi v a' ∧ K (a'.put oi.dst v) w') a w := by
 obtain ⟨h1, h2, h3⟩ := Oper.apart_spec hap
 have stays : ∀ (b : Act) u, YR P ops S oi v b → YR P ops S oi v (b.put oj.dst u) := fun b u hb =>
  ⟨by rw [wanted_put oi b oj.dst u h3]; exact hb.want, fun w hS => by rw [execOp_put oi hsi b oj.dst u h3]; exact hb.run w hS, fun w => by rw [about_put oi w b oj.dst u h3]; exact hb.calm w⟩
 have comm : ∀ u, (a.put oi.dst v).put oj.dst u = (a.put oj.dst u).put oi.dst v := fun u => Act.put_comm a v u h2
 unfold wpOpIn at h ⊢
 simp only [hj] at h ⊢
 rw [wanted_put oj a oi.dst v h1] at h
 by_cases hw : Region.wanted oj (yielded ops a.tmps) = true
 ·rw [if_pos hw] at h ⊢
  obtain ⟨hb, hu⟩ := h
  rw [about_put oj w a oi.dst v h1] at hb
  rw [zG hd hj, execOp_put oj hsj a oi.dst v h1] at hu
  refine ⟨hb, ?_⟩
  rw [zG hd hj]
  generalize (execOp a.eval oj).run P w = r at hu ⊢
  rcases r with ⟨x, w'⟩ | ⟨x, w'⟩
  ·cases x with
   | value u => exact ⟨stays a u hy, by rw [← comm]; exact hu⟩
   | skip => exact ⟨stays a undef hy, by rw [← comm]; exact hu⟩
   | defer d =>
    refine ⟨stays { a with defers := d :: a.defers } undef ⟨hy.want, hy.run, hy.calm⟩, ?_⟩
    have e : (({ a with defers := d :: a.defers } : Act).put oj.dst undef).put oi.dst v = ({ (a.put oi.dst v) with defers := d :: (a.put oi.dst v).defers } : Act).put oj.dst undef := by
     rw [← Act.put_comm _ v undef h2, ← Act.put_defers]
    rw [e]; exact hu
   | enter f args =>
    refine ⟨hu.1, CallsIn.mono hu.2 fun e w'' he => ?_⟩
    cases e with
    | returned u => exact ⟨stays a u hy, by rw [← comm]; exact he⟩
    | panicked c => exact hQ _ _ _ he
    | outgrown => exact he
   | row row args => exact ⟨hu.1, RowsIn.mono hu.2 fun u w'' he => ⟨stays a u hy, by rw [← comm]; exact he⟩⟩
   | round l f tmps assign body =>
    refine ⟨hu.1, RoundIn.mono hu.2 fun e w'' he => ?_⟩
    cases e with
    | returned u => exact ⟨stays a u hy, by rw [← comm]; exact he⟩
    | panicked c => exact hQ _ _ _ he
    | outgrown => exact he
   | _ => exact hu
  ·cases x with
   | panic u => exact hQ _ _ _ hu
   | _ => exact hu
 ·rw [if_neg hw] at h ⊢
  exact ⟨by rw [about_put oj w a oi.dst v h1] at h; exact h.1, stays a undef hy, by rw [← comm]; exact h.2⟩
def aY (F : Fence) (n : Nat) (P : Program) (md : Region.Mode) (ops : Array Oper) (Q : Exit → Act → World → Prop) (S : World → Prop) (t : Nat) : Nat → Array Bool → Act → World → Prop
 | 0, l, a, w => Region.ready md ops l = [] ∧ Q .normal a w
 | m + 1, l, a, w => (Region.ready md ops l = [] → Q .normal a w) ∧
  ∀ i ∈ Region.ready md ops l, wpOpIn F n P ops Q i (fun a' w' => (gw t (l.setIfInBounds i true) → S w') ∧ aY F n P md ops Q S t m (l.setIfInBounds i true) a' w') a w
theorem aY.any : ∀ (m : Nat) (l : Array Bool) (a : Act) (w : World), aY F n P md ops Q S t m l a w → wpAnyIn F n P md ops Q m l a w
 | 0, _, _, _, h => h
 | m + 1, _, _, _, h => ⟨h.1, fun i hi => wpOpIn_mono (fun a' w' h' => aY.any m _ a' w' h'.2) (h.2 i hi)⟩
theorem aY.first {i : Nat} {oi : Oper} {v : Value} (hd : l8 ops = true) (hi : ops[i]? = some oi) (hsel : ∀ (j : Nat) (o : Oper) cs b, ops[j]? = some o → o.op ≠ .select cs b)
  (hQ : ∀ c a w, Q (.panic c) (a.put oi.dst v) w → Q (.panic c) a w) : ∀ (m : Nat) (l : Array Bool) (a : Act) (w : World),
   (∀ j oj, ops[j]? = some oj → j ≠ i → l.getD j true = false → (∀ e ∈ oj.after, Region.binds md e = true → e.on ≠ i) → oi.apart ops oj = true) →
   i ∈ Region.ready md ops l → waitsB t md ops l i = true → YR P ops S oi v a → S w → aY F n P md ops Q S t m (l.setIfInBounds i true) (a.put oi.dst v) w → aY F n P md ops Q S t (m + 1) l a w := by
 intro m
 induction m with
 | zero =>
  intro l a w _ hr _ hy hS H
  refine ⟨fun h => absurd hr (by rw [h]; simp), fun j hj => ?_⟩
  by_cases hji : j = i
  ·subst hji; exact hy.step hd hi hS ⟨fun _ => hS, H⟩
  ·exact absurd (ready_mono hj hji) (by rw [H.1]; simp)
 | succ m ih =>
  intro l a w hfree hr hwt hy hS H
  refine ⟨fun h => absurd hr (by rw [h]; simp), fun j hj => ?_⟩
  by_cases hji : j = i
  ·subst hji; exact hy.step hd hi hS ⟨fun _ => hS, H⟩
  ·have hun := (mem_ready.1 hr).1
   obtain ⟨oJ, oj, jh, hall⟩ := mem_ready.1 hj
   have hnot : ∀ e ∈ oj.after, Region.binds md e = true → e.on ≠ i := fun e he hb heq => by
    have h1 := hall e he hb
    rw [heq] at h1
    by_cases h' : i < l.size
    ·simp [h'] at hun h1; rw [hun] at h1; cases h1
    ·simp [h'] at h1
   have h2 := hy.swap hd jh (hfree j oj jh hji oJ hnot) (fun cs b => hsel i oi cs b hi) (fun cs b => hsel j oj cs b jh) hQ (H.2 j (ready_mono hj hji))
   have hir : i ∈ Region.ready md ops (l.setIfInBounds j true) := ready_mono hr (Ne.symm hji)
   refine wpOpIn_mono (fun a' w' h3 => ?_) h2
   have oK : ∀ k ok, ops[k]? = some ok → k ≠ i → (l.setIfInBounds j true).getD k true = false → (∀ e ∈ ok.after, Region.binds md e = true → e.on ≠ i) → oi.apart ops ok = true := fun k ok hk hki uo hno => by
    refine hfree k ok hk hki ?_ hno
    by_cases hjk : j = k
    ·rw [← hjk]; exact oJ
    ·rw [getD_set_ne true hjk] at uo; exact uo
   have hcm : (l.setIfInBounds i true).setIfInBounds j true = (l.setIfInBounds j true).setIfInBounds i true := Array.setIfInBounds_comm _ _ (Ne.symm hji)
   obtain ⟨k, eF, hk⟩ := List.any_eq_true.1 hwt
   have eF := List.mem_range.1 eF
   simp only [Bool.and_eq_true, Bool.not_eq_true'] at hk
   obtain ⟨hk1, hk2⟩ := hk
   obtain ⟨ok', Kn⟩ : ∃ o, ops[k]? = some o := by
    cases h : ops[k]? with
    | none => rw [h] at hk2; cases hk2
    | some o => exact ⟨o, rfl⟩
   rw [Kn] at hk2
   obtain ⟨x, hx, e, J7⟩ := (by simpa using Array.any_eq_true.1 hk2 : ∃ x, ∃ (hx : x < ok'.after.size), Region.binds md ok'.after[x] = true ∧ ok'.after[x].on = i)
   have hkj : k ≠ j := fun e2 => by
    subst e2
    rw [Kn] at jh
    injection jh with jh
    refine hnot ok'.after[x] ?_ e J7
    rw [← jh]; exact Array.getElem_mem hx
   have hki : k ≠ i := fun e2 => by
    subst e2
    obtain ⟨_, o3, uq, h4⟩ := mem_ready.1 hr
    rw [Kn] at uq
    injection uq with uq
    have h5 := h4 ok'.after[x] (by rw [← uq]; exact Array.getElem_mem hx) e
    rw [J7] at h5
    by_cases h' : k < l.size
    ·simp [h'] at hun h5; rw [hun] at h5; cases h5
    ·simp [h'] at h5
   have J8 : S w' := h3.2.1 ⟨k, eF, by rw [getD_set_ne true (Ne.symm hkj), getD_set_ne true (Ne.symm hki)]; exact hk1⟩
   have MO : waitsB t md ops (l.setIfInBounds j true) i = true := List.any_eq_true.2 ⟨k, List.mem_range.2 eF, by
    rw [getD_set_ne true (Ne.symm hkj), hk1, Kn]; simpa using hk2⟩
   exact ⟨fun _ => J8, ih _ a' w' oK hir MO h3.1 J8 (by rw [← hcm]; exact h3.2.2)⟩
theorem aY.Ic {i : Nat} {oi : Oper} {v : Value} (hti : t ≤ i) (hd : l8 ops = true) (hi : ops[i]? = some oi) (hsel : ∀ (j : Nat) (o : Oper) cs b, ops[j]? = some o → o.op ≠ .select cs b)
  (hQ : ∀ c a w, Q (.panic c) (a.put oi.dst v) w → Q (.panic c) a w) : ∀ (m : Nat) (l : Array Bool) (a : Act) (w : World),
   (∀ j oj, ops[j]? = some oj → j ≠ i → l.getD j true = false → (∀ e ∈ oj.after, Region.binds md e = true → e.on ≠ i) → oi.apart ops oj = true) →
   i ∈ Region.ready md ops l → YR P ops (fun _ => True) oi v a → (gw t (l.setIfInBounds i true) → S w) → aY F n P md ops Q S t m (l.setIfInBounds i true) (a.put oi.dst v) w → aY F n P md ops Q S t (m + 1) l a w := by
 intro m
 induction m with
 | zero =>
  intro l a w _ hr hy hS H
  refine ⟨fun h => absurd hr (by rw [h]; simp), fun j hj => ?_⟩
  by_cases hji : j = i
  ·subst hji; exact hy.step hd hi trivial ⟨hS, H⟩
  ·exact absurd (ready_mono hj hji) (by rw [H.1]; simp)
 | succ m ih =>
  intro l a w hfree hr hy hS H
  refine ⟨fun h => absurd hr (by rw [h]; simp), fun j hj => ?_⟩
  by_cases hji : j = i
  ·subst hji; exact hy.step hd hi trivial ⟨hS, H⟩
  ·have hun := (mem_ready.1 hr).1
   obtain ⟨oJ, oj, jh, hall⟩ := mem_ready.1 hj
   have hnot : ∀ e ∈ oj.after, Region.binds md e = true → e.on ≠ i := fun e he hb heq => by
    have h1 := hall e he hb
    rw [heq] at h1
    by_cases h' : i < l.size
    ·simp [h'] at hun h1; rw [hun] at h1; cases h1
    ·simp [h'] at h1
   have h2 := hy.swap hd jh (hfree j oj jh hji oJ hnot) (fun cs b => hsel i oi cs b hi) (fun cs b => hsel j oj cs b jh) hQ (H.2 j (ready_mono hj hji))
   have hir : i ∈ Region.ready md ops (l.setIfInBounds j true) := ready_mono hr (Ne.symm hji)
   refine wpOpIn_mono (fun a' w' h3 => ?_) h2
   have oK : ∀ k ok, ops[k]? = some ok → k ≠ i → (l.setIfInBounds j true).getD k true = false → (∀ e ∈ ok.after, Region.binds md e = true → e.on ≠ i) → oi.apart ops ok = true := fun k ok hk hki uo hno => by
    refine hfree k ok hk hki ?_ hno
    by_cases hjk : j = k
    ·rw [← hjk]; exact oJ
    ·rw [getD_set_ne true hjk] at uo; exact uo
   have hcm : (l.setIfInBounds i true).setIfInBounds j true = (l.setIfInBounds j true).setIfInBounds i true := Array.setIfInBounds_comm _ _ (Ne.symm hji)
   have hmo : gw t (l.setIfInBounds j true) → S w' := fun ⟨k, hk, eF⟩ => h3.2.1 ⟨k, hk, by
    rw [hcm, getD_set_ne true (by omega)]; exact eF⟩
   refine ⟨hmo, ih _ a' w' oK hir h3.1 (fun ⟨k, hk, eF⟩ => hmo ⟨k, hk, ?_⟩) (by rw [← hcm]; exact h3.2.2)⟩
   rw [getD_set_ne true (by omega)] at eF; exact eF
theorem aY.free {i : Nat} {oi : Oper} {v : Value} {m : Nat} {l : Array Bool} {a : Act} {w : World} (iq : ops.toList[i]? = some oi)
  (hc : (decide (t ≤ i) && l8 ops && Region.noSelect ops && Region.free md ops l i && (Region.ready md ops l).contains i) = true)
  (hQ : ∀ c a w, Q (.panic c) (a.put oi.dst v) w → Q (.panic c) a w) (hg : Region.wanted oi (yielded ops a.tmps) = true) (hb : ∀ w, oi.about P w a.eval = none) (hy : ∀ w, (execOp a.eval oi).run P w = .ok (.value v) w) (hS : gw t (l.setIfInBounds i true) → S w)
  (h : aY F n P md ops Q S t m (l.setIfInBounds i true) (a.put oi.dst v) w) : aY F n P md ops Q S t (m + 1) l a w := by
 have hi : ops[i]? = some oi := by rw [← Array.getElem?_toList]; exact iq
 simp only [Bool.and_eq_true, decide_eq_true_eq] at hc
 obtain ⟨⟨⟨⟨h0, h4⟩, h1⟩, h2⟩, h3⟩ := hc
 exact aY.Ic h0 h4 hi (Region.noSelect_spec h1) hQ m l a w (Region.free_spec hi h2) (by simpa using h3) ⟨hg, fun w _ => hy w, hb⟩ hS h
theorem aY.take {i : Nat} {oi : Oper} {v : Value} {m : Nat} {l : Array Bool} {a : Act} {w : World} (iq : ops.toList[i]? = some oi)
  (hc : (l8 ops && Region.noSelect ops && Region.free md ops l i && (Region.ready md ops l).contains i && waitsB t md ops l i) = true)
  (hQ : ∀ c a w, Q (.panic c) (a.put oi.dst v) w → Q (.panic c) a w) (hg : Region.wanted oi (yielded ops a.tmps) = true) (hb : ∀ w, oi.about P w a.eval = none) (hy : ∀ w, S w → (execOp a.eval oi).run P w = .ok (.value v) w) (hS : S w)
  (h : aY F n P md ops Q S t m (l.setIfInBounds i true) (a.put oi.dst v) w) : aY F n P md ops Q S t (m + 1) l a w := by
 have hi : ops[i]? = some oi := by rw [← Array.getElem?_toList]; exact iq
 simp only [Bool.and_eq_true] at hc
 obtain ⟨⟨⟨⟨h0, h1⟩, h2⟩, h3⟩, h4⟩ := hc
 exact aY.first h0 hi (Region.noSelect_spec h1) hQ m l a w (Region.free_spec hi h2) (by simpa using h3) h4 ⟨hg, hy, hb⟩ hS h
theorem aY.step {i : Nat} {oi : Oper} {m : Nat} {l : Array Bool} {a : Act} {w : World} (iq : ops.toList[i]? = some oi) (hr : Region.ready md ops l = [i])
  (h : ∀ K' : Act → World → Prop, Shut (∀ a w, (gw t (l.setIfInBounds i true) → S w) → ((gw t (l.setIfInBounds i true) → S w) → aY F n P md ops Q S t m (l.setIfInBounds i true) a w) → K' a w) → if Region.wanted oi (yielded ops a.tmps) = true then Oper.wpIn F n P oi a w K' Q else (∀ f, oi.about P w a.eval = some f → F.fn f) ∧ K' (a.put oi.dst undef) w) :
  aY F n P md ops Q S t (m + 1) l a w :=
 ⟨fun h0 => absurd (h0.symm.trans hr) (by simp), fun j hj => by
  rw [hr] at hj
  obtain rfl : j = i := by simpa using hj
  exact wpOpIn_step (by rw [← Array.getElem?_toList]; exact iq) fun K' hK => h K' fun a w hS hW => hK a w ⟨hS, hW hS⟩⟩
theorem aY.vB {i i2 : Nat} {oi wG : Oper} {m : Nat} {l : Array Bool} {a : Act} {w : World} (iq : ops.toList[i]? = some oi) (MP : ops.toList[i2]? = some wG) (hr : Region.ready md ops l = [i, i2])
  (h : ∀ K' : Act → World → Prop, Shut (∀ a w, (gw t (l.setIfInBounds i true) → S w) → ((gw t (l.setIfInBounds i true) → S w) → aY F n P md ops Q S t m (l.setIfInBounds i true) a w) → K' a w) → if Region.wanted oi (yielded ops a.tmps) = true then Oper.wpIn F n P oi a w K' Q else (∀ f, oi.about P w a.eval = some f → F.fn f) ∧ K' (a.put oi.dst undef) w)
  (h2 : ∀ K' : Act → World → Prop, Shut (∀ a w, (gw t (l.setIfInBounds i2 true) → S w) → ((gw t (l.setIfInBounds i2 true) → S w) → aY F n P md ops Q S t m (l.setIfInBounds i2 true) a w) → K' a w) → if Region.wanted wG (yielded ops a.tmps) = true then Oper.wpIn F n P wG a w K' Q else (∀ f, wG.about P w a.eval = some f → F.fn f) ∧ K' (a.put wG.dst undef) w) :
  aY F n P md ops Q S t (m + 1) l a w :=
 ⟨fun h0 => absurd (h0.symm.trans hr) (by simp), fun j hj => by
  rw [hr] at hj
  rcases List.mem_cons.1 hj with rfl | hj
  ·exact wpOpIn_step (by rw [← Array.getElem?_toList]; exact iq) fun K' hK => h K' fun a w hS hW => hK a w ⟨hS, hW hS⟩
  ·obtain rfl : j = i2 := by simpa using hj
   exact wpOpIn_step (by rw [← Array.getElem?_toList]; exact MP) fun K' hK => h2 K' fun a w hS hW => hK a w ⟨hS, hW hS⟩⟩
theorem aY.done {l : Array Bool} {a : Act} {w : World} {m : Nat} (hr : Region.ready md ops l = []) (h : Q .normal a w) : aY F n P md ops Q S t m l a w := by
 cases m with
 | zero => exact ⟨hr, h⟩
 | succ m => exact ⟨fun _ => h, fun j hj => (by rw [hr] at hj; cases hj)⟩
theorem M6 {id : Nat} {a : Act} {w : World} (hm : P.follows .mixedOrders = true) (t : Nat) (S : World → Prop) (hS : S w.drew)
  (h : S w.drew → aY F n P .any ops Q S t ops.size (Array.replicate ops.size false) a w.drew) : (Code.region id ops true).wpIn F n P Q a w := wpIn_region_any hm (aY.any _ _ _ _ (h hS))
end
end
section
open Go.RowKit Go.Deep
def gL (xs : List (List Int)) (k : Nat) : Int := if (gl xs k).length ≠ (gl xs 0).length then 9 else if fR (gl xs k) (-1) 16 then 2 else 0
def bU (xs : List (List Int)) : Int := if xs.length = 0 then 5 else if 32 < xs.length ∨ 4096 < (gl xs 0).length then 4 else firstNZ (gL xs) xs.length
set_option maxHeartbeats 400000 in
theorem Ii (w : World) (x : Int) : xm 135 #[] #[.int .i64 x] (.bool (decide (x < -1) || decide (16 ≤ x))) w := by
 unfold xm
 go_enter Tryz.func135, Tryz.ntmps135
 by_cases hx : x < -1
 ·go_wp2_with fail
  go_ret
  exact ⟨bB (by simp [hx]), rfl⟩
 ·go_wp2_with fail
  go_ret
  exact ⟨bB (by simp; omega), rfl⟩
set_option maxHeartbeats 1000000 in
theorem AL (S : Nat → Prop) (w : World) (v : Value) (xs : List (List Int)) (h : aX S w v xs) (hn : xs.length ≤ 1000000) (hr : ∀ k, (gl xs k).length ≤ 1000000) :
  Calls Tryz.prog 75 #[v] w fun e w' => e = .returned (.int .i64 (bU xs)) ∧ w = w' := by
 have cD : bU xs = if xs.length = 0 then 5 else if 32 < xs.length ∨ 4096 < (gl xs 0).length then 4 else firstNZ (gL xs) xs.length := rfl
 have HF := aa cD
 obtain ⟨p, cap, rfl, hcap, _⟩ := eD h
 have H := aa h
 clear cD h
 by_cases h0 : xs.length = 0
 ·have HX : Hid (xs.length = 0) := h0
  have h0' : ((xs.length : Int) == 0) = true := by simp [h0]
  clear h0
  go_enter Tryz.func75, Tryz.ntmps75
  go_wp2_with fail
  go_ret
  exact ⟨aH (by rw [HF.out, if_pos HX.out]), rfl⟩
 have h0' : ((xs.length : Int) == 0) = false := by simpa using h0
 have S7 : 0 < xs.length := by omega
 by_cases h1 : 32 < xs.length
 ·go_enter Tryz.func75, Tryz.ntmps75
  go_wp2_with fail
  go_ret
  exact ⟨aH (by rw [HF.out, if_neg h0, if_pos (.inl h1)]), rfl⟩
 obtain ⟨b, off, q0, c0, rfl, hc0, iq⟩ := fA H.out S7
 have M7 : w.cell? ⟨b, off, none⟩ = some (.slice q0 (gl xs 0).length c0) := by simpa using hc0
 have WE := hr 0
 clear hc0 iq
 by_cases h2 : 4096 < (gl xs 0).length
 ·go_enter Tryz.func75, Tryz.ntmps75
  go_wp2_with fail
  go_ret
  exact ⟨aH (by rw [HF.out, if_neg h0, if_pos (.inr h2)]), rfl⟩
 have nG : Hid (bU xs = firstNZ (gL xs) xs.length) := by unfold Hid; rw [HF.out, if_neg h0, if_neg (by omega)]
 have HR := aa hr
 have AO : Hid (∀ k, gL xs k = if (gl xs k).length ≠ (gl xs 0).length then 9 else if fR (gl xs k) (-1) 16 then 2 else 0) := fun _ => rfl
 clear HF hr
 generalize (gl xs 0).length = l0 at *
 go_enter Tryz.func75, Tryz.ntmps75
 go_wp2_with fail
 go_loop [4, 22] (fun _ i => ∃ k : Nat, k ≤ xs.length ∧ i = .int .i64 k ∧ Hid (∀ j, j < k → gL xs j = 0)) (fun _ i => xs.length - (intOf i).toNat)
 case atStart => exact ⟨0, Nat.zero_le _, rfl, fun j hj => absurd hj (Nat.not_lt_zero _)⟩
 case round =>
  obtain ⟨k, hk, rfl, hd⟩ := hrel
  by_cases hlt : k < xs.length
  ·obtain ⟨b', off', qk, ck, e1, tV, hik⟩ := fA H.out hlt
   injection e1 with e1
   injection e1 with e1 e2
   subst e1; subst e2
   have Di := aa (ye 135 #[] (enters_of Tryz.func135 (by kernel_rfl) rfl) S w _ (gl xs k).length _ (fun j => decide (gi (gl xs k) j < -1) || decide (16 ≤ gi (gl xs k) j)) hik (HR.out k) (fun j _ => Ii w (gi (gl xs k) j)))
   have bH : Hid (fR (gl xs k) (-1) 16 = (List.range (gl xs k).length).any fun j => decide (gi (gl xs k) j < -1) || decide (16 ≤ gi (gl xs k) j)) := rfl
   have HK := aa (AO.out k)
   clear hik
   by_cases mN : (gl xs k).length = l0
   ·have gF : (((gl xs k).length : Int) != (l0 : Int)) = false := by simp [mN]
    have dN := aa mN
    clear mN
    go_wp2_with fail
    refine Di.out.mono ?_
    rintro e w' ⟨rfl, rfl⟩
    rw [← bH.out]
    by_cases lU : fR (gl xs k) (-1) 16 = true
    ·have rj := aa lU
     rw [lU]
     clear lU
     go_wp2_with fail
     go_ret
     have wI : gL xs k = 2 := by rw [HK.out, if_neg (fun e => e dN.out), if_pos rj.out]
     exact ⟨aH (by rw [nG.out, eo hlt hd.out (by rw [wI]; decide), wI]), rfl⟩
    ·have S8 : fR (gl xs k) (-1) 16 = false := by simpa using lU
     have rj := aa lU
     rw [S8]
     clear lU S8
     go_wp2_with fail
     go_round
     case rel => exact ⟨k + 1, by omega, by go_num, fun j hj => if e : j = k then by subst e; rw [HK.out, if_neg (fun e => e dN.out), if_neg rj.out] else hd.out j (by omega)⟩
     case measure => simp [intOf]; omega
   ·have gF : (((gl xs k).length : Int) != (l0 : Int)) = true := by simp; omega
    have dN := aa mN
    clear mN
    go_wp2_with fail
    go_ret
    have wI : gL xs k = 9 := by rw [HK.out, if_pos dN.out]
    exact ⟨aH (by rw [nG.out, eo hlt hd.out (by rw [wI]; decide), wI]), rfl⟩
  ·obtain rfl : k = xs.length := by omega
   clear hlt
   go_wp2_with fail
   go_ret
   exact ⟨aH (by rw [nG.out, di hd.out]), rfl⟩
end
end Go.Proofs.YteegefnjnikngaaGreat
