/- A region that draws its order, only reads, and ends in one operation that may write: outside a round. -/
import Derived.Test.YtkfndaebmbnmaaaQ4
namespace Go.Proofs.Ytkfndaebmbnmaaa
open Go.RowKit Go.Shelf Go.Deep
section
variable {P : Program} {C : World → Prop}
theorem wpQuietP_append {ops : Array Oper} {Q : Act → Prop} : ∀ {l₁ l₂ : List Oper} {a : Act}, wpQuiet P ops C (fun a => wpQuiet P ops C Q l₂ a) l₁ a → wpQuiet P ops C Q (l₁ ++ l₂) a
  | [], _, _, h => h
  | o :: l₁, l₂, a, h => by
    have h2 := h
    unfold wpQuiet at h2
    show (if _ then _ else _)
    split
    · rename_i hw; rw [if_pos hw] at h2; exact Oper.quiet_mono (fun a h => wpQuietP_append h) h2
    · rename_i hw; rw [if_neg hw] at h2; exact wpQuietP_append h2
theorem wpQuietP_ops {ops ops' : Array Oper} (hy : yielded ops' = yielded ops) {Q : Act → Prop} : ∀ {l : List Oper} {a : Act}, wpQuiet P ops C Q l a → wpQuiet P ops' C Q l a
  | [], _, h => h
  | o :: l, a, h => by
    have h2 := h
    unfold wpQuiet at h2
    show (if _ then _ else _)
    rw [hy]
    split
    · rename_i hw; rw [if_pos hw] at h2; exact Oper.quiet_mono (fun a h => wpQuietP_ops hy h) h2
    · rename_i hw; rw [if_neg hw] at h2; exact wpQuietP_ops hy h2
theorem any_tailP {l : List Oper} {m : Nat} {Q : Exit → Act → World → Prop} (hl : l.length = m + 1) (hb : backB l = true) (hsk : Region.sinkB .any l.toArray m = true) (hch : Region.chainB .any l.toArray m = true) (hlast : ∀ o, l[m]? = some o → o.guard = none ∧ o.dst = none) (fuel : Nat) :
    ∀ (listed : Array Bool) (a : Act) (w : World), C w → HeadInv .any l.toArray m listed →
      wpAnyQ P .any (blankAt l m).toArray C (fun a => ∀ w, C w → wpOp P l.toArray Q m (fun a w => Q .normal a w) a w) fuel listed a → wpAny P .any l.toArray Q fuel listed a w := by
  have hm : m < l.toArray.size := by simp; omega
  induction fuel with
  | zero =>
    intro listed a w _ inv h
    have h1 := h.1
    rw [blank_ready] at h1
    exact absurd h1 (ready_some hl hb inv.size ⟨m, Nat.le_refl _, inv.tail m (Nat.le_refl _) hm⟩)
  | succ fuel ih =>
    intro listed a w hw inv h
    refine ⟨fun h0 => absurd h0 (ready_some hl hb inv.size ⟨m, Nat.le_refl _, inv.tail m (Nat.le_refl _) hm⟩), fun i hi => ?_⟩
    have h2 := h.2 i (by rw [blank_ready]; exact hi)
    have hil : i < l.toArray.size := (Array.getElem?_eq_some_iff.1 (mem_ready.1 hi).2.choose_spec.1).1
    by_cases e : i = m
    · subst e
      have hall : ∀ j, j < i → listed.getD j true = true := fun j hj => by
        cases hx : listed.getD j true with
        | true => rfl
        | false => exact absurd hi (tail_waits hsk hch hm inv _ j rfl hj hx i (Nat.le_refl _))
      have hnil : Region.ready .any l.toArray (listed.setIfInBounds i true) = [] := by
        rw [List.eq_nil_iff_forall_not_mem]
        intro j hj
        obtain ⟨hj1, o, ho, _⟩ := mem_ready.1 hj
        have hjl : j < l.toArray.size := (Array.getElem?_eq_some_iff.1 ho).1
        have hjl2 : j < i + 1 := by simp at hjl; omega
        by_cases e2 : j = i
        · subst e2
          have : j < listed.size := by rw [inv.size]; exact hjl
          simp [this] at hj1
        · rw [getD_set_ne true (by omega)] at hj1
          rw [hall j (by omega)] at hj1; cases hj1
      have hlt : i < l.length := by omega
      have hbi : (blankAt l i).toArray[i]? = some (blankOp l[i]) := by rw [blankAt_get, if_pos rfl, List.getElem?_eq_getElem hlt]; rfl
      obtain ⟨hg, hd⟩ := hlast l[i] (List.getElem?_eq_getElem hlt)
      unfold qOp at h2
      simp only [hbi] at h2
      have h3 := h2
      have hwt : ∀ y, Region.wanted (blankOp l[i]) y = true := fun y => by unfold Region.wanted blankOp; simp only [hg]
      rw [if_pos (hwt _)] at h3
      obtain ⟨v, _, h4⟩ := h3
      have hput : a.put (blankOp l[i]).dst v = a := by unfold blankOp; simp only [hd]; rfl
      rw [hput] at h4
      have h5 : wpOp P l.toArray Q i (fun a w => Q .normal a w) a w := by
        cases fuel with
        | zero => exact h4.2 w hw
        | succ f => exact h4.1 (by rw [blank_ready]; exact hnil) w hw
      refine wpOp_mono (fun a w hq => ?_) h5
      cases fuel with
      | zero => exact ⟨hnil, hq⟩
      | succ f => exact ⟨fun _ => hq, fun j hj => by rw [hnil] at hj; cases hj⟩
    · have him : i < m := by simp at hil; omega
      have hbi : (blankAt l m).toArray[i]? = l.toArray[i]? := by rw [blankAt_get, if_neg e]
      have h3 : qOp P l.toArray C i (wpAnyQ P .any (blankAt l m).toArray C (fun a => ∀ w, C w → wpOp P l.toArray Q m (fun a w => Q .normal a w) a w) fuel (listed.setIfInBounds i true)) a := by
        unfold qOp at h2 ⊢
        rw [hbi, blank_yielded] at h2
        exact h2
      exact wpOp_of_qOp hw (fun a' w' hw' hk => ih _ a' w' hw' (inv.set hi him) hk) h3
theorem region_tail_p {id : Nat} {Q : Exit → Act → World → Prop} {a : Act} {w : World} {l : List Oper} (m : Nat) (hm : P.follows .mixedOrders = true) (hB : tailB l m = true)
    (h : wpQuiet P l.toArray (fun w' => ∃ n, w' = w.drewN n) (fun a' => ∀ w', (∃ n, w' = w.drewN n) → wpList P l.toArray Q (l.drop m) a' w') (l.take m) a) : (Code.region id l.toArray true).wp P Q a w := by
  unfold tailB at hB
  simp only [Bool.and_eq_true, decide_eq_true_eq] at hB
  obtain ⟨⟨⟨⟨⟨⟨hl, hlex⟩, hbk⟩, hsk⟩, hch⟩, hdf⟩, hlast⟩ := hB
  have hmem : l[m]? = some (l[m]'(by omega)) := List.getElem?_eq_getElem (by omega)
  rw [hmem] at hlast
  simp only [Bool.and_eq_true, Option.isNone_iff_eq_none] at hlast
  simp only [Region.lexB, Bool.and_eq_true] at hlex
  have inv0 : HeadInv .any l.toArray m (Array.replicate l.toArray.size false) :=
    ⟨by simp, fun j oj _ hl => (by rw [getD_replicate_false] at hl; cases hl), fun t _ ht => getD_in (by simpa using ht) (getD_replicate_false _ _)⟩
  refine wp_region_any hm (any_tailP (C := fun w' => ∃ n, w' = w.drewN n) hl hbk hsk hch (fun o ho => by rw [hmem] at ho; cases ho; exact hlast) _ _ _ _ ⟨1, rfl⟩ inv0 ?_)
  have hsplit : blankAt l m = l.take m ++ [blankOp (l[m]'(by omega))] := by
    unfold blankAt; rw [hmem]
    simp only
    rw [List.set_eq_take_append_cons_drop, if_pos (by omega), List.drop_of_length_le (by omega)]
  have h1 : wpQuiet P (blankAt l m).toArray (fun w' => ∃ n, w' = w.drewN n) (fun a => ∀ w', (∃ n, w' = w.drewN n) → wpOp P l.toArray Q m (fun a w => Q .normal a w) a w') (blankAt l m) a := by
    refine wpQuietP_ops (blank_yielded l m) ?_
    rw [hsplit]
    refine wpQuietP_append ?_
    have hd : l.drop m = [l[m]'(by omega)] := by rw [List.drop_eq_getElem_cons (by omega), List.drop_of_length_le (by omega)]
    rw [hd] at h
    have hmono : ∀ {Q Q' : Act → Prop} (hq : ∀ a, Q a → Q' a) {l' : List Oper} {a : Act}, wpQuiet P l.toArray (fun w' => ∃ n, w' = w.drewN n) Q l' a → wpQuiet P l.toArray (fun w' => ∃ n, w' = w.drewN n) Q' l' a := by
      intro Q Q' hq l'
      induction l' with
      | nil => intro a h; exact hq a h
      | cons o l' ih =>
        intro a h
        have h2 := h
        unfold wpQuiet at h2
        show (if _ then _ else _)
        split
        · rename_i hw; rw [if_pos hw] at h2; exact Oper.quiet_mono (fun a h => ih h) h2
        · rename_i hw; rw [if_neg hw] at h2; exact ih h2
    refine hmono (fun a' hq => ?_) h
    show (if _ then _ else _)
    have hwt : ∀ y, Region.wanted (blankOp (l[m]'(by omega))) y = true := fun y => by unfold Region.wanted blankOp; simp only [hlast.1]
    rw [if_pos (hwt _)]
    refine ⟨undef, fun w' _ => ?_, fun w' hw' => ?_⟩
    · exact ⟨rfl, rfl⟩
    · have hput : a'.put (blankOp (l[m]'(by omega))).dst undef = a' := by unfold blankOp; simp only [hlast.2]; rfl
      rw [hput]
      have h2 := hq w' hw'
      unfold wpOp
      have hma : l.toArray[m]? = some (l[m]'(by omega)) := by simp
      rw [hma]
      simp only
      exact h2
  have h2 := wpAnyQ_lex (C := fun w' => ∃ n, w' = w.drewN n) (md := .any) hlex.1 (blankAt l m) 0 (Array.replicate (blankAt l m).toArray.size false) a (by simp) (by simpa using hlex.2) h1
  have hlen : (blankAt l m).length = l.toArray.size := by rw [← blankAt_size l m]; simp
  rw [hlen, blankAt_size] at h2
  exact h2
end
end Go.Proofs.Ytkfndaebmbnmaaa
