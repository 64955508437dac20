/- A region that draws its order and only reads, within a round of a loop over a function. -/
import Derived.Test.YtflikmllpimaiaaB16
namespace Go.Proofs.Ytflikmllpimaiaa
open Go.RowKit Go.Shelf Go.Deep
section
variable {F : Fence} {n : Nat} {P : Program} {ops : Array Oper} {C : World → Prop}
theorem op_quiet_r {o : Oper} {a : Act} {K : Act → Prop} {K' : Act → World → Prop} {Q' : Exit → Act → World → Prop} {w : World} (hs : ∀ ρ, Oper.semAt F.round ρ o = execOp ρ o) (hw : C w)
    (h : ∀ a w', C w' → K a → K' a w') (ha : o.askedIn F P a C) (hh : o.quietIn F n P a C K) : o.wpIn F n P a w K' Q' := by
  obtain ⟨v, hv, hk⟩ := hh
  have hv := hv w hw
  refine ⟨ha w hw, ?_⟩
  rw [hs]
  unfold Oper.quietAtIn at hv
  cases hr : (execOp a.eval o).run P w with
  | halt x w' => rw [hr] at hv; exact hv.elim
  | ok x w' =>
    rw [hr] at hv
    cases x with
    | value u => obtain ⟨rfl, rfl⟩ := hv; exact h _ _ hw hk
    | skip => obtain ⟨rfl, rfl⟩ := hv; exact h _ _ hw hk
    | enter f args => obtain ⟨rfl, hd, hc⟩ := hv; exact ⟨hd, hc.mono fun e w'' ⟨he, hw2⟩ => by subst he; exact h _ _ hw2 hk⟩
    | _ => exact hv.elim
theorem at_quiet_r {i : Nat} {a : Act} {K : Act → Prop} {K' : Act → World → Prop} {Q' : Exit → Act → World → Prop} {w : World} (hs : ∀ o : Oper, ops[i]? = some o → ∀ ρ, Oper.semAt F.round ρ o = execOp ρ o) (hC : C w)
    (h : ∀ a w', C w' → K a → K' a w') (hh : qOpIn F n P ops C i K a) : wpOpIn F n P ops Q' i K' a w := by
  cases ho : ops[i]? with
  | none => simp only [qOpIn, wpOpIn, ho] at hh ⊢; exact h _ _ hC hh
  | some o =>
    simp only [qOpIn, wpOpIn, ho] at hh ⊢
    by_cases hg : Region.wanted o (yielded ops a.tmps) = true
    · rw [if_pos hg] at hh ⊢; exact op_quiet_r (hs o ho) hC h hh.1 hh.2
    · rw [if_neg hg] at hh ⊢; exact ⟨hh.1 w hC, h _ _ hC hh.2⟩
theorem any_quiet_r {Q : Act → Prop} {Q' : Exit → Act → World → Prop} {md : Region.Mode} (hs : ∀ (i : Nat) (o : Oper), ops[i]? = some o → ∀ ρ, Oper.semAt F.round ρ o = execOp ρ o) (hQ : ∀ a w, C w → Q a → Q' .normal a w) (fuel : Nat) :
    ∀ (listed : Array Bool) (a : Act) (w : World), C w → wpAnyQIn F n P md ops C Q fuel listed a → wpAnyIn F n P md ops Q' fuel listed a w := by
  induction fuel with
  | zero => intro _ a w hw h; exact ⟨h.1, hQ a w hw h.2⟩
  | succ k ih => intro _ a w hw h; exact ⟨fun h0 => hQ a w hw (h.1 h0), fun i hi => at_quiet_r (hs i) hw (fun a' w' hw' => ih _ a' w' hw') (h.2 i hi)⟩
theorem region_quiet_r {id l₀ : Nat} {Q : Exit → Act → World → Prop} {a : Act} {w : World} {l : List Oper} (hro : F.round = some l₀) (hm : P.follows .mixedOrders = true) (hB : Region.lexB .any l.toArray = true)
    (hd : l.all (fun o => match o.op with | .defer _ => false | _ => true) = true)
    (h : wpQuietIn F n P l.toArray (fun w' => ∃ n, w' = w.drewN n) (fun a' => ∀ w', (∃ n, w' = w.drewN n) → Q .normal a' w') l a) : (Code.region id l.toArray true).wpIn F n P Q a w := by
  have hs : ∀ (i : Nat) o, l.toArray[i]? = some o → ∀ ρ, Oper.semAt F.round ρ o = execOp ρ o := fun i o ho ρ => by
    rw [hro]
    refine Oper.semAt_some l₀ ρ o fun c e => ?_
    have h1 := List.all_eq_true.1 hd o (List.mem_of_getElem? (by simpa using ho))
    rw [e] at h1; cases h1
  simp only [Region.lexB, Bool.and_eq_true] at hB
  refine wpIn_region_any hm (any_quiet_r (C := fun w' => ∃ n, w' = w.drewN n) (Q := fun a' => ∀ w', (∃ n, w' = w.drewN n) → Q .normal a' w') hs (fun _ w' hw' h => h w' hw') _ _ _ _ ⟨1, rfl⟩ ?_)
  have h2 := wpAnyQIn_lex (F := F) (n := n) (C := fun w' => ∃ n, w' = w.drewN n) (md := .any) hB.1 l.toArray.toList 0 (Array.replicate l.toArray.size false) a (by simp) (by simpa using hB.2) (by simpa using h)
  simpa using h2
end
end Go.Proofs.Ytflikmllpimaiaa
