/- A region that draws its order, only reads, and ends in one operation that may write: by the walk in the order of the text. -/
import Derived.StillTail
import Derived.Test.YtflikmllpimaiaaB19
namespace Go.Proofs.Ytflikmllpimaiaa
open Go.RowKit Go.Shelf Go.Deep
section
variable {F : Fence} {n : Nat} {P : Program} {C : World → Prop}
/-- The last operation, made idle. -/
def blankOp (o : Oper) : Oper := { o with op := .move (.const undef) }
def blankAt (l : List Oper) (m : Nat) : List Oper := match l[m]? with | some o => l.set m (blankOp o) | none => l
def backB (l : List Oper) : Bool := (List.range l.length).all fun i => match l[i]? with | some o => o.after.all fun e => !Region.binds .any e || decide (e.on < i) | none => true
def tailB (l : List Oper) (m : Nat) : Bool :=
  decide (l.length = m + 1) && Region.lexB .any (blankAt l m).toArray && backB l && Region.sinkB .any l.toArray m && Region.chainB .any l.toArray m &&
  (l.all fun o => match o.op with | .defer _ => false | _ => true) && (match l[m]? with | some o => o.guard.isNone && o.dst.isNone | none => false)
theorem blankAt_get (l : List Oper) (m i : Nat) : (blankAt l m).toArray[i]? = if i = m then (l[m]?).map blankOp else l.toArray[i]? := by
  unfold blankAt
  by_cases e : i = m
  · subst e
    cases h : l[i]? with
    | none => simp [h]
    | some o => have hl : i < l.length := (List.getElem?_eq_some_iff.1 h).1; simp [hl]
  · rw [if_neg e]
    cases h : l[m]? with
    | none => rfl
    | some o => simp [Ne.symm e]
theorem blankAt_size (l : List Oper) (m : Nat) : (blankAt l m).toArray.size = l.toArray.size := by
  unfold blankAt; split <;> simp
theorem blank_after (l : List Oper) (m i : Nat) : ((blankAt l m).toArray[i]?).map (·.after) = (l.toArray[i]?).map (·.after) := by
  rw [blankAt_get]
  by_cases e : i = m
  · subst e; rw [if_pos rfl]; cases h : l[i]? <;> simp [h, blankOp]
  · rw [if_neg e]
theorem blank_ready (l : List Oper) (m : Nat) (listed : Array Bool) : Region.ready .any (blankAt l m).toArray listed = Region.ready .any l.toArray listed := by
  unfold Region.ready
  rw [blankAt_size]
  refine List.filter_congr fun i _ => ?_
  have h := blank_after l m i
  cases h1 : (blankAt l m).toArray[i]? <;> cases h2 : l.toArray[i]? <;> rw [h1, h2] at h <;> simp at h ⊢
  rw [h]
theorem blank_yielded (l : List Oper) (m : Nat) : yielded (blankAt l m).toArray = yielded l.toArray := by
  funext tmps j
  unfold yielded
  rw [blankAt_get]
  by_cases e : j = m
  · subst e; rw [if_pos rfl]; cases h : l[j]? <;> simp [h, blankOp]
  · rw [if_neg e]
theorem ready_some {l : List Oper} {m : Nat} (hl : l.length = m + 1) (hb : backB l = true) {listed : Array Bool} (hsz : listed.size = l.toArray.size) (hun : ∃ i, i ≤ m ∧ listed.getD i true = false) : Region.ready .any l.toArray listed ≠ [] := by
  obtain ⟨i, hi, hun⟩ := hun
  induction i using Nat.strongRecOn with
  | _ i ih =>
    by_cases hlow : ∃ j, j < i ∧ listed.getD j true = false
    · obtain ⟨j, hj, hj2⟩ := hlow
      exact ih j hj (by omega) hj2
    · refine List.ne_nil_of_mem (a := i) (mem_ready.2 ⟨hun, l[i]'(by omega), by simp, fun e he hbd => ?_⟩)
      have h1 := List.all_eq_true.1 hb i (List.mem_range.2 (by omega))
      rw [List.getElem?_eq_getElem (by omega)] at h1
      have h2 := Array.all_eq_true_iff_forall_mem.1 h1 e he
      simp [hbd] at h2
      cases h3 : listed.getD e.on true with
      | false => exact absurd ⟨e.on, h2, h3⟩ hlow
      | true =>
        have : e.on < listed.size := by rw [hsz]; simp; omega
        simpa [this] using h3
theorem wpQuietIn_append {ops : Array Oper} {Q : Act → Prop} : ∀ {l₁ l₂ : List Oper} {a : Act}, wpQuietIn F n P ops C (fun a => wpQuietIn F n P ops C Q l₂ a) l₁ a → wpQuietIn F n P ops C Q (l₁ ++ l₂) a
  | [], _, _, h => h
  | o :: l₁, l₂, a, h => by
    refine ⟨h.1, ?_⟩
    have h2 := h.2
    split
    · rename_i hw; rw [if_pos hw] at h2; exact Oper.quietIn_mono (fun a h => wpQuietIn_append h) h2
    · rename_i hw; rw [if_neg hw] at h2; exact wpQuietIn_append h2
theorem wpQuietIn_ops {ops ops' : Array Oper} (hy : yielded ops' = yielded ops) {Q : Act → Prop} : ∀ {l : List Oper} {a : Act}, wpQuietIn F n P ops C Q l a → wpQuietIn F n P ops' C Q l a
  | [], _, h => h
  | o :: l, a, h => by
    refine ⟨h.1, ?_⟩
    have h2 := h.2
    rw [hy]
    split
    · rename_i hw; rw [if_pos hw] at h2; exact Oper.quietIn_mono (fun a h => wpQuietIn_ops hy h) h2
    · rename_i hw; rw [if_neg hw] at h2; exact wpQuietIn_ops hy h2
theorem any_tail {l : List Oper} {m : Nat} {Q : Exit → Act → World → Prop} (hl : l.length = m + 1) (hs : ∀ (i : Nat) (o : Oper), l.toArray[i]? = some o → ∀ ρ, Oper.semAt F.round ρ o = execOp ρ o)
    (hb : backB l = true) (hsk : Region.sinkB .any l.toArray m = true) (hch : Region.chainB .any l.toArray m = true) (hlast : ∀ o, l[m]? = some o → o.guard = none ∧ o.dst = none) (fuel : Nat) :
    ∀ (listed : Array Bool) (a : Act) (w : World), C w → HeadInv .any l.toArray m listed →
      wpAnyQIn F n P .any (blankAt l m).toArray C (fun a => ∀ w, C w → wpOpIn F n P l.toArray Q m (fun a w => Q .normal a w) a w) fuel listed a → wpAnyIn F n P .any l.toArray Q fuel listed a w := by
  have hm : m < l.toArray.size := by simp; omega
  induction fuel with
  | zero =>
    intro listed a w _ inv h
    have h1 := h.1
    rw [blank_ready] at h1
    exact absurd h1 (ready_some hl hb inv.size ⟨m, Nat.le_refl _, inv.tail m (Nat.le_refl _) hm⟩)
  | succ fuel ih =>
    intro listed a w hw inv h
    refine ⟨fun h0 => absurd h0 (ready_some hl hb inv.size ⟨m, Nat.le_refl _, inv.tail m (Nat.le_refl _) hm⟩), fun i hi => ?_⟩
    have h2 := h.2 i (by rw [blank_ready]; exact hi)
    have hil : i < l.toArray.size := (Array.getElem?_eq_some_iff.1 (mem_ready.1 hi).2.choose_spec.1).1
    by_cases e : i = m
    · subst e
      have hall : ∀ j, j < i → listed.getD j true = true := fun j hj => by
        cases hx : listed.getD j true with
        | true => rfl
        | false => exact absurd hi (tail_waits hsk hch hm inv _ j rfl hj hx i (Nat.le_refl _))
      have hnil : Region.ready .any l.toArray (listed.setIfInBounds i true) = [] := by
        rw [List.eq_nil_iff_forall_not_mem]
        intro j hj
        obtain ⟨hj1, o, ho, _⟩ := mem_ready.1 hj
        have hjl : j < l.toArray.size := (Array.getElem?_eq_some_iff.1 ho).1
        have hjl2 : j < i + 1 := by simp at hjl; omega
        by_cases e2 : j = i
        · subst e2
          have : j < listed.size := by rw [inv.size]; exact hjl
          simp [this] at hj1
        · rw [getD_set_ne true (by omega)] at hj1
          rw [hall j (by omega)] at hj1; cases hj1
      have hlt : i < l.length := by omega
      have hbi : (blankAt l i).toArray[i]? = some (blankOp l[i]) := by rw [blankAt_get, if_pos rfl, List.getElem?_eq_getElem hlt]; rfl
      obtain ⟨hg, hd⟩ := hlast l[i] (List.getElem?_eq_getElem hlt)
      unfold qOpIn at h2
      simp only [hbi] at h2
      have h3 := h2.2
      have hwt : ∀ y, Region.wanted (blankOp l[i]) y = true := fun y => by unfold Region.wanted blankOp; simp only [hg]
      rw [if_pos (hwt _)] at h3
      obtain ⟨v, _, h4⟩ := h3
      have hput : a.put (blankOp l[i]).dst v = a := by unfold blankOp; simp only [hd]; rfl
      rw [hput] at h4
      have h5 : wpOpIn F n P l.toArray Q i (fun a w => Q .normal a w) a w := by
        cases fuel with
        | zero => exact h4.2 w hw
        | succ f => exact h4.1 (by rw [blank_ready]; exact hnil) w hw
      refine wpOpIn_mono (fun a w hq => ?_) h5
      cases fuel with
      | zero => exact ⟨hnil, hq⟩
      | succ f => exact ⟨fun _ => hq, fun j hj => by rw [hnil] at hj; cases hj⟩
    · have him : i < m := by simp at hil; omega
      have hbi : (blankAt l m).toArray[i]? = l.toArray[i]? := by rw [blankAt_get, if_neg e]
      have h3 : qOpIn F n P l.toArray C i (wpAnyQIn F n P .any (blankAt l m).toArray C (fun a => ∀ w, C w → wpOpIn F n P l.toArray Q m (fun a w => Q .normal a w) a w) fuel (listed.setIfInBounds i true)) a := by
        unfold qOpIn at h2 ⊢
        rw [hbi, blank_yielded] at h2
        exact h2
      exact at_quiet_r (hs i) hw (fun a' w' hw' hk => ih _ a' w' hw' (inv.set hi him) hk) h3
theorem region_tail_r {id : Nat} {Q : Exit → Act → World → Prop} {a : Act} {w : World} {l : List Oper} (m : Nat) (hm : P.follows .mixedOrders = true) (hB : tailB l m = true)
    (h : wpQuietIn F n P l.toArray (fun w' => ∃ n, w' = w.drewN n) (fun a' => ∀ w', (∃ n, w' = w.drewN n) → wpListIn F n P l.toArray Q (l.drop m) a' w') (l.take m) a) : (Code.region id l.toArray true).wpIn F n P Q a w := by
  unfold tailB at hB
  simp only [Bool.and_eq_true, decide_eq_true_eq] at hB
  obtain ⟨⟨⟨⟨⟨⟨hl, hlex⟩, hbk⟩, hsk⟩, hch⟩, hdf⟩, hlast⟩ := hB
  have hmem : l[m]? = some (l[m]'(by omega)) := List.getElem?_eq_getElem (by omega)
  rw [hmem] at hlast
  simp only [Bool.and_eq_true, Option.isNone_iff_eq_none] at hlast
  have hs : ∀ (i : Nat) o, l.toArray[i]? = some o → ∀ ρ, Oper.semAt F.round ρ o = execOp ρ o := fun i o ho ρ => by
    refine Oper.semAt_eq _ ρ o fun c e => ?_
    have h1 := List.all_eq_true.1 hdf o (List.mem_of_getElem? (by simpa using ho))
    rw [e] at h1; cases h1
  simp only [Region.lexB, Bool.and_eq_true] at hlex
  have inv0 : HeadInv .any l.toArray m (Array.replicate l.toArray.size false) :=
    ⟨by simp, fun j oj _ hl => (by rw [getD_replicate_false] at hl; cases hl), fun t _ ht => getD_in (by simpa using ht) (getD_replicate_false _ _)⟩
  refine wpIn_region_any hm (any_tail (C := fun w' => ∃ n, w' = w.drewN n) hl hs hbk hsk hch (fun o ho => by rw [hmem] at ho; cases ho; exact hlast) _ _ _ _ ⟨1, rfl⟩ inv0 ?_)
  have hsplit : blankAt l m = l.take m ++ [blankOp (l[m]'(by omega))] := by
    unfold blankAt; rw [hmem]
    simp only
    rw [List.set_eq_take_append_cons_drop, if_pos (by omega), List.drop_of_length_le (by omega)]
  have h1 : wpQuietIn F n P (blankAt l m).toArray (fun w' => ∃ n, w' = w.drewN n) (fun a => ∀ w', (∃ n, w' = w.drewN n) → wpOpIn F n P l.toArray Q m (fun a w => Q .normal a w) a w') (blankAt l m) a := by
    refine wpQuietIn_ops (blank_yielded l m) ?_
    rw [hsplit]
    refine wpQuietIn_append ?_
    have hd : l.drop m = [l[m]'(by omega)] := by rw [List.drop_eq_getElem_cons (by omega), List.drop_of_length_le (by omega)]
    rw [hd] at h
    have hmono : ∀ {Q Q' : Act → Prop} (hq : ∀ a, Q a → Q' a) {l' : List Oper} {a : Act}, wpQuietIn F n P l.toArray (fun w' => ∃ n, w' = w.drewN n) Q l' a → wpQuietIn F n P l.toArray (fun w' => ∃ n, w' = w.drewN n) Q' l' a := by
      intro Q Q' hq l'
      induction l' with
      | nil => intro a h; exact hq a h
      | cons o l' ih =>
        intro a h
        refine ⟨h.1, ?_⟩
        have h2 := h.2
        split
        · rename_i hw; rw [if_pos hw] at h2; exact Oper.quietIn_mono (fun a h => ih h) h2
        · rename_i hw; rw [if_neg hw] at h2; exact ih h2
    refine hmono (fun a' hq => ?_) h
    refine ⟨fun w' _ f hf => by simp [Oper.about, blankOp] at hf, ?_⟩
    have hwt : ∀ y, Region.wanted (blankOp (l[m]'(by omega))) y = true := fun y => by unfold Region.wanted blankOp; simp only [hlast.1]
    rw [if_pos (hwt _)]
    refine ⟨undef, fun w' _ => ?_, fun w' hw' => ?_⟩
    · exact ⟨rfl, rfl⟩
    · have hput : a'.put (blankOp (l[m]'(by omega))).dst undef = a' := by unfold blankOp; simp only [hlast.2]; rfl
      rw [hput]
      have h2 := hq w' hw'
      unfold wpOpIn
      have hma : l.toArray[m]? = some (l[m]'(by omega)) := by simp
      rw [hma]
      simp only
      have h3 : wpListIn F n P l.toArray Q [l[m]'(by omega)] a' w' = if Region.wanted (l[m]'(by omega)) (yielded l.toArray a'.tmps) then (l[m]'(by omega)).wpIn F n P a' w' (wpListIn F n P l.toArray Q []) Q else (∀ f, (l[m]'(by omega)).about P w' a'.eval = some f → F.fn f) ∧ wpListIn F n P l.toArray Q [] (a'.put (l[m]'(by omega)).dst undef) w' := rfl
      rw [h3] at h2
      exact h2
  have h2 := wpAnyQIn_lex (F := F) (n := n) (C := fun w' => ∃ n, w' = w.drewN n) (md := .any) hlex.1 (blankAt l m) 0 (Array.replicate (blankAt l m).toArray.size false) a (by simp) (by simpa using hlex.2) h1
  have hlen : (blankAt l m).length = l.toArray.size := by rw [← blankAt_size l m]; simp
  rw [hlen, blankAt_size] at h2
  exact h2
end
end Go.Proofs.Ytflikmllpimaiaa
