/- The arguments of a law, opened; the frame of a law's proof. A region that draws its order, only reads, and ends in one operation that may write: by the walk in the order of the text. Names, as layer 1's and layer 31's references have them. Names, as layer 1's and layer 31's references have them: IsName, named. -/
import Derived.Test.YtgjcfkadioblfaaGreatRows
import Derived.WalkKit
import Derived.ProofKit
import Derived.OpenShut
import Derived.ShutString
import Derived.ChangeOld
import Derived.Below
import Derived.Deep.Matrix
import Derived.Lib.SmallJoins
import Derived.Test.YtgjcfkadioblfaaGreatQ3
import Derived.StillTail
import Derived.Test.YtgjcfkadioblfaaGreatQ2
namespace Go.Proofs.YtgjcfkadioblfaaGreat
open Go.ChangeShapes Go.WideShapes Go.ChangeAt Go.RowKit Go.Deep
theorem own_none : ownKnob Tryz.prog.godebug = none := by kernel_rfl
theorem laidOut : laidOutB Tryz.prog = true := by kernel_rfl
section
variable {H : Type} {enc : TypeId × Value → H} {W : World}
theorem len_max {n : Nat} (h : n ≤ maxLen) : n ≤ 9223372036854775807 := by unfold maxLen at h; exact h
theorem open_ints1 {fuel : Nat} {v : Value} {x : DataW H × List MemPlace} (h : DataW.trod enc Tryz.prog W 0 (fun _ => true) true fuel 22 [v] = some x) : ∃ xs : List Int, IntsAt Any W v xs ∧ xs.length ≤ 9223372036854775807 := by
  rcases open_ints Tryz.underlying22 Tryz.underlying3 (by kernel_rfl) h with ⟨hcs, _⟩ | ⟨a, l, c, zs, hcs, _, hl, hm, hz, _, hcell, _⟩
  · obtain rfl : v = .slice none 0 0 := by simpa using hcs
    exact ⟨[], ⟨none, 0, rfl, Nat.le_refl _, .inl rfl⟩, by simp⟩
  · obtain rfl : v = .slice (some a) l c := by simpa using hcs
    simp only [if_true] at hz
    have hlen : (zs.take l).length = l := by simp; omega
    refine ⟨zs.take l, ⟨some a, c, by rw [hlen], by rw [hlen]; exact hl, ?_⟩, by rw [hlen]; exact len_max (Nat.le_trans hl hm)⟩
    by_cases h0 : l = 0
    · exact .inl (by rw [hlen]; exact h0)
    · obtain ⟨b, off, rfl, hc⟩ := ints_at hcell (by omega)
      refine .inr ⟨b, off, rfl, trivial, fun k hk => ?_⟩
      rw [hlen] at hk
      rw [hc k (by omega)]
      simp [gi, hk]
theorem open_strs1 {fuel : Nat} {v : Value} {x : DataW H × List MemPlace} (h : DataW.trod enc Tryz.prog W 0 (fun _ => true) true fuel 23 [v] = some x) : ∃ xs : List ByteArray, StrsAt Any W v xs ∧ xs.length ≤ 9223372036854775807 ∧ ∀ k, (gs xs k).size ≤ 9223372036854775807 := by
  rcases open_strings Tryz.underlying23 Tryz.underlying9 (by kernel_rfl) h with ⟨hcs, _⟩ | ⟨a, l, c, zs, hcs, _, hl, hm, hz, _, hcell, hwf⟩
  · obtain rfl : v = .slice none 0 0 := by simpa using hcs
    exact ⟨[], ⟨none, 0, rfl, Nat.le_refl _, .inl rfl⟩, by simp, fun k => by simp [gs]⟩
  · obtain rfl : v = .slice (some a) l c := by simpa using hcs
    simp only [if_true] at hz
    have hlen : (zs.take l).length = l := by simp; omega
    refine ⟨zs.take l, ⟨some a, c, by rw [hlen], by rw [hlen]; exact hl, ?_⟩, by rw [hlen]; exact len_max (Nat.le_trans hl hm), fun k => ?_⟩
    · by_cases h0 : l = 0
      · exact .inl (by rw [hlen]; exact h0)
      · obtain ⟨b, off, spot⟩ := a
        have hspot : spot = none := by simpa [Addr.add] using World.cell?_spot (hcell 0 (by omega))
        subst hspot
        refine .inr ⟨b, off, rfl, trivial, fun k hk => ?_⟩
        rw [hlen] at hk
        rw [← add_plain, hcell k (by omega)]
        have hk2 : k < zs.length := by omega
        simp [gs, hk, hk2]
    · by_cases hk : k < (zs.take l).length
      · have hm : gs (zs.take l) k ∈ zs := by
          have : gs (zs.take l) k = (zs.take l)[k] := by unfold gs; rw [List.getD_eq_getElem?_getD, List.getElem?_eq_getElem hk]; rfl
          rw [this]; exact List.mem_of_mem_take (List.getElem_mem hk)
        exact len_max (hwf _ hm)
      · have : gs (zs.take l) k = ByteArray.empty := by simp [gs, List.getElem?_eq_none (by omega : (zs.take l).length ≤ k)]
        rw [this]; simp
theorem open_rows1 {fuel : Nat} {v : Value} {x : DataW H × List MemPlace} (h : DataW.trod enc Tryz.prog W 0 (fun _ => true) true fuel 31 [v] = some x) : ∃ xs : List (List Int), RowsAt Any W v xs ∧ xs.length ≤ 9223372036854775807 ∧ ∀ k, (gl xs k).length ≤ 9223372036854775807 := by
  rcases open_int_rows Tryz.underlying31 Tryz.underlying22 Tryz.underlying3 (by kernel_rfl) (by kernel_rfl) h with ⟨hcs, _⟩ | ⟨a, l, c, A, L, C, Z, hcs, _, hl, hm, _, hr⟩
  · obtain rfl : v = .slice none 0 0 := by simpa using hcs
    exact ⟨[], ⟨fun _ => undef, ⟨none, 0, rfl, Nat.le_refl _, .inl rfl⟩, fun k hk => absurd hk (Nat.not_lt_zero _)⟩, by simp, fun k => by simp [gl]⟩
  · obtain rfl : v = .slice (some a) l c := by simpa using hcs
    have hlen : ((List.range l).map fun r => (Z r).take (L r)).length = l := by simp
    have hgl : ∀ k, k < l → gl ((List.range l).map fun r => (Z r).take (L r)) k = (Z k).take (L k) := fun k hk => by simp [gl, hk]
    have hLk : ∀ k, k < l → ((Z k).take (L k)).length = L k := fun k hk => by obtain ⟨_, h1, _, h3, _⟩ := hr k (by omega); simp; omega
    refine ⟨(List.range l).map fun r => (Z r).take (L r), ⟨fun k => .slice (A k) (L k) (C k), ⟨some a, c, by rw [hlen], by rw [hlen]; exact hl, ?_⟩, fun k hk => ?_⟩, by rw [hlen]; exact len_max (Nat.le_trans hl hm), fun k => ?_⟩
    · by_cases h0 : l = 0
      · exact .inl (by rw [hlen]; exact h0)
      · obtain ⟨b, off, spot⟩ := a
        have hspot : spot = none := by simpa [Addr.add] using World.cell?_spot (hr 0 (by omega)).1
        subst hspot
        refine .inr ⟨b, off, rfl, trivial, fun k hk => ?_⟩
        rw [hlen] at hk
        rw [← add_plain]; exact (hr k (by omega)).1
    · rw [hlen] at hk
      obtain ⟨_, h1, h2, h3, _, h5, h6⟩ := hr k (by omega)
      rw [hgl k hk]
      refine ⟨A k, C k, by rw [hLk k hk], by rw [hLk k hk]; exact h1, ?_⟩
      by_cases h0 : L k = 0
      · exact .inl (by rw [hLk k hk]; exact h0)
      · cases hA : A k with
        | none => have := h5 hA; omega
        | some a' =>
          obtain ⟨_, h7⟩ := h6 a' hA
          obtain ⟨b, off, rfl, hc⟩ := ints_at (zs := Z k) (k := .i64) (fun i hi => h7 i (by omega)) (by omega)
          refine .inr ⟨b, off, rfl, trivial, fun j hj => ?_⟩
          rw [hLk k hk] at hj
          rw [hc j (by omega)]
          simp [gi, hj]
    · by_cases hk : k < l
      · rw [hgl k hk, hLk k hk]
        obtain ⟨_, h1, h2, _⟩ := hr k (by omega)
        exact len_max (Nat.le_trans h1 h2)
      · have : gl ((List.range l).map fun r => (Z r).take (L r)) k = [] := by simp [gl, hk]
        rw [this]; simp
set_option maxRecDepth 100000 in
theorem open_tree1 {v : Value} {d : DataW H} {p : List MemPlace} {base : Nat} (hv : Value.okWide Tryz.prog W .any base 25 v) (h : DataW.Trod enc Tryz.prog W 0 (fun _ => true) true 25 v d p) :
    ∃ t : Tre, TreeAt Any W v t ∧ t.ps.length ≤ 9223372036854775807 ∧ t.ns.length ≤ 9223372036854775807 ∧ ∀ k, (gs t.ns k).size ≤ 9223372036854775807 := by
  obtain ⟨c0, c1, y0, y1, m, rfl, _, _, h0, h1⟩ := Joins.open_agg2 Tryz.underlying25 (by kernel_rfl) (by kernel_rfl) hv h
  obtain ⟨ps, hp, hpl⟩ := open_ints1 h0
  obtain ⟨ns, hn, hnl, hns⟩ := open_strs1 h1
  exact ⟨⟨ps, ns⟩, ⟨c0, c1, rfl, hp, hn⟩, hpl, hnl, hns⟩
theorem trod_one {t : TypeId} {v : Value} {d : DataW H} {p : List MemPlace} (h1 : v.cells = #[v]) (h : DataW.Trod enc Tryz.prog W 0 (fun _ => true) true t v d p) : ∃ fuel, DataW.trod enc Tryz.prog W 0 (fun _ => true) true fuel t [v] = some (d, p) := by
  obtain ⟨n, hn⟩ := h
  rw [h1] at hn; exact ⟨n, hn⟩
theorem lt_of {t : TypeId} {v : Value} {d : DataW H} {p : List MemPlace} (h : DataW.Trod enc Tryz.prog W 0 (fun _ => true) true t v d p) : ∀ x ∈ p, x.block < W.heap.size := by
  obtain ⟨m, hm⟩ := h; exact DataW.trod_lt m _ _ _ hm
set_option maxRecDepth 100000 in
theorem open_intsV {v : Value} {d : DataW H} {p : List MemPlace} {base : Nat} (hv : Value.okWide Tryz.prog W .any base 22 v) (h : DataW.Trod enc Tryz.prog W 0 (fun _ => true) true 22 v d p) : ∃ xs : List Int, IntsAt Any W v xs ∧ xs.length ≤ 9223372036854775807 := by
  obtain ⟨a, l, c, rfl⟩ := okWide_slice Tryz.underlying22 hv
  obtain ⟨n, hn⟩ := trod_one rfl h
  exact open_ints1 hn
set_option maxRecDepth 100000 in
theorem open_bytesV {v : Value} {d : DataW H} {p : List MemPlace} {base : Nat} (hv : Value.okWide Tryz.prog W .any base 58 v) (h : DataW.Trod enc Tryz.prog W 0 (fun _ => true) true 58 v d p) :
    ∃ xs : List Int, SlAt Any W v xs.length (fun k => .int .u8 (gi xs k)) ∧ xs.length ≤ 9223372036854775807 ∧ ∀ k, 0 ≤ gi xs k ∧ gi xs k ≤ 255 := by
  obtain ⟨a, l, c, rfl⟩ := okWide_slice Tryz.underlying58 hv
  obtain ⟨n, hn⟩ := trod_one rfl h
  rcases open_ints Tryz.underlying58 Tryz.underlying5 (by kernel_rfl) hn with ⟨hcs, _⟩ | ⟨a', l', c', zs, hcs, _, hl, hm, hz, _, hcell, hwf⟩
  · simp at hcs
    obtain ⟨rfl, rfl, rfl⟩ := hcs
    exact ⟨[], ⟨none, 0, rfl, Nat.le_refl _, .inl rfl⟩, by simp, fun k => by simp [gi]⟩
  · simp at hcs
    obtain ⟨rfl, rfl, rfl⟩ := hcs
    simp only [if_true] at hz
    have hlen : (zs.take l).length = l := by simp; omega
    refine ⟨zs.take l, ⟨some a', c, by rw [hlen], by rw [hlen]; exact hl, ?_⟩, by rw [hlen]; exact len_max (Nat.le_trans hl hm), fun k => ?_⟩
    · by_cases h0 : l = 0
      · exact .inl (by rw [hlen]; exact h0)
      · obtain ⟨b, off, rfl, hc⟩ := ints_at hcell (by omega)
        refine .inr ⟨b, off, rfl, trivial, fun k hk => ?_⟩
        rw [hlen] at hk
        rw [hc k (by omega)]
        simp [gi, hk]
    · by_cases hk : k < (zs.take l).length
      · have hm : gi (zs.take l) k ∈ zs := by
          have : gi (zs.take l) k = (zs.take l)[k] := by unfold gi; rw [List.getD_eq_getElem?_getD, List.getElem?_eq_getElem hk]; rfl
          rw [this]; exact List.mem_of_mem_take (List.getElem_mem hk)
        exact bounds_u8 (hwf _ hm)
      · have : gi (zs.take l) k = 0 := by unfold gi; rw [List.getD_eq_getElem?_getD, List.getElem?_eq_none (by omega)]; rfl
        rw [this]; omega
set_option maxRecDepth 100000 in
theorem open_rowsV {v : Value} {d : DataW H} {p : List MemPlace} {base : Nat} (hv : Value.okWide Tryz.prog W .any base 31 v) (h : DataW.Trod enc Tryz.prog W 0 (fun _ => true) true 31 v d p) : ∃ xs : List (List Int), RowsAt Any W v xs ∧ xs.length ≤ 9223372036854775807 ∧ ∀ k, (gl xs k).length ≤ 9223372036854775807 := by
  obtain ⟨a, l, c, rfl⟩ := okWide_slice Tryz.underlying31 hv
  obtain ⟨n, hn⟩ := trod_one rfl h
  exact open_rows1 hn
end
end Go.Proofs.YtgjcfkadioblfaaGreat
namespace Go.Proofs.YtgjcfkadioblfaaGreat
open Go.RowKit Go.Shelf Go.Deep
section
variable {F : Fence} {n : Nat} {P : Program} {C : World → Prop}
/-- The last operation, made idle. -/
def blankOp (o : Oper) : Oper := { o with op := .move (.const undef) }
def blankAt (l : List Oper) (m : Nat) : List Oper := match l[m]? with | some o => l.set m (blankOp o) | none => l
def backB (l : List Oper) : Bool := (List.range l.length).all fun i => match l[i]? with | some o => o.after.all fun e => !Region.binds .any e || decide (e.on < i) | none => true
def tailB (l : List Oper) (m : Nat) : Bool :=
  decide (l.length = m + 1) && Region.lexB .any (blankAt l m).toArray && backB l && Region.sinkB .any l.toArray m && Region.chainB .any l.toArray m &&
  (l.all fun o => match o.op with | .defer _ => false | _ => true) && (match l[m]? with | some o => o.guard.isNone && o.dst.isNone | none => false)
theorem blankAt_get (l : List Oper) (m i : Nat) : (blankAt l m).toArray[i]? = if i = m then (l[m]?).map blankOp else l.toArray[i]? := by
  unfold blankAt
  by_cases e : i = m
  · subst e
    cases h : l[i]? with
    | none => simp [h]
    | some o => have hl : i < l.length := (List.getElem?_eq_some_iff.1 h).1; simp [hl]
  · rw [if_neg e]
    cases h : l[m]? with
    | none => rfl
    | some o => simp [Ne.symm e]
theorem blankAt_size (l : List Oper) (m : Nat) : (blankAt l m).toArray.size = l.toArray.size := by
  unfold blankAt; split <;> simp
theorem blank_after (l : List Oper) (m i : Nat) : ((blankAt l m).toArray[i]?).map (·.after) = (l.toArray[i]?).map (·.after) := by
  rw [blankAt_get]
  by_cases e : i = m
  · subst e; rw [if_pos rfl]; cases h : l[i]? <;> simp [h, blankOp]
  · rw [if_neg e]
theorem blank_ready (l : List Oper) (m : Nat) (listed : Array Bool) : Region.ready .any (blankAt l m).toArray listed = Region.ready .any l.toArray listed := by
  unfold Region.ready
  rw [blankAt_size]
  refine List.filter_congr fun i _ => ?_
  have h := blank_after l m i
  cases h1 : (blankAt l m).toArray[i]? <;> cases h2 : l.toArray[i]? <;> rw [h1, h2] at h <;> simp at h ⊢
  rw [h]
theorem blank_yielded (l : List Oper) (m : Nat) : yielded (blankAt l m).toArray = yielded l.toArray := by
  funext tmps j
  unfold yielded
  rw [blankAt_get]
  by_cases e : j = m
  · subst e; rw [if_pos rfl]; cases h : l[j]? <;> simp [h, blankOp]
  · rw [if_neg e]
theorem ready_some {l : List Oper} {m : Nat} (hl : l.length = m + 1) (hb : backB l = true) {listed : Array Bool} (hsz : listed.size = l.toArray.size) (hun : ∃ i, i ≤ m ∧ listed.getD i true = false) : Region.ready .any l.toArray listed ≠ [] := by
  obtain ⟨i, hi, hun⟩ := hun
  induction i using Nat.strongRecOn with
  | _ i ih =>
    by_cases hlow : ∃ j, j < i ∧ listed.getD j true = false
    · obtain ⟨j, hj, hj2⟩ := hlow
      exact ih j hj (by omega) hj2
    · refine List.ne_nil_of_mem (a := i) (mem_ready.2 ⟨hun, l[i]'(by omega), by simp, fun e he hbd => ?_⟩)
      have h1 := List.all_eq_true.1 hb i (List.mem_range.2 (by omega))
      rw [List.getElem?_eq_getElem (by omega)] at h1
      have h2 := Array.all_eq_true_iff_forall_mem.1 h1 e he
      simp [hbd] at h2
      cases h3 : listed.getD e.on true with
      | false => exact absurd ⟨e.on, h2, h3⟩ hlow
      | true =>
        have : e.on < listed.size := by rw [hsz]; simp; omega
        simpa [this] using h3
theorem wpQuietIn_append {ops : Array Oper} {Q : Act → Prop} : ∀ {l₁ l₂ : List Oper} {a : Act}, wpQuietIn F n P ops C (fun a => wpQuietIn F n P ops C Q l₂ a) l₁ a → wpQuietIn F n P ops C Q (l₁ ++ l₂) a
  | [], _, _, h => h
  | o :: l₁, l₂, a, h => by
    refine ⟨h.1, ?_⟩
    have h2 := h.2
    split
    · rename_i hw; rw [if_pos hw] at h2; exact Oper.quietIn_mono (fun a h => wpQuietIn_append h) h2
    · rename_i hw; rw [if_neg hw] at h2; exact wpQuietIn_append h2
theorem wpQuietIn_ops {ops ops' : Array Oper} (hy : yielded ops' = yielded ops) {Q : Act → Prop} : ∀ {l : List Oper} {a : Act}, wpQuietIn F n P ops C Q l a → wpQuietIn F n P ops' C Q l a
  | [], _, h => h
  | o :: l, a, h => by
    refine ⟨h.1, ?_⟩
    have h2 := h.2
    rw [hy]
    split
    · rename_i hw; rw [if_pos hw] at h2; exact Oper.quietIn_mono (fun a h => wpQuietIn_ops hy h) h2
    · rename_i hw; rw [if_neg hw] at h2; exact wpQuietIn_ops hy h2
theorem any_tail {l : List Oper} {m : Nat} {Q : Exit → Act → World → Prop} (hl : l.length = m + 1) (hs : ∀ (i : Nat) (o : Oper), l.toArray[i]? = some o → ∀ ρ, Oper.semAt F.round ρ o = execOp ρ o)
    (hb : backB l = true) (hsk : Region.sinkB .any l.toArray m = true) (hch : Region.chainB .any l.toArray m = true) (hlast : ∀ o, l[m]? = some o → o.guard = none ∧ o.dst = none) (fuel : Nat) :
    ∀ (listed : Array Bool) (a : Act) (w : World), C w → HeadInv .any l.toArray m listed →
      wpAnyQIn F n P .any (blankAt l m).toArray C (fun a => ∀ w, C w → wpOpIn F n P l.toArray Q m (fun a w => Q .normal a w) a w) fuel listed a → wpAnyIn F n P .any l.toArray Q fuel listed a w := by
  have hm : m < l.toArray.size := by simp; omega
  induction fuel with
  | zero =>
    intro listed a w _ inv h
    have h1 := h.1
    rw [blank_ready] at h1
    exact absurd h1 (ready_some hl hb inv.size ⟨m, Nat.le_refl _, inv.tail m (Nat.le_refl _) hm⟩)
  | succ fuel ih =>
    intro listed a w hw inv h
    refine ⟨fun h0 => absurd h0 (ready_some hl hb inv.size ⟨m, Nat.le_refl _, inv.tail m (Nat.le_refl _) hm⟩), fun i hi => ?_⟩
    have h2 := h.2 i (by rw [blank_ready]; exact hi)
    have hil : i < l.toArray.size := (Array.getElem?_eq_some_iff.1 (mem_ready.1 hi).2.choose_spec.1).1
    by_cases e : i = m
    · subst e
      have hall : ∀ j, j < i → listed.getD j true = true := fun j hj => by
        cases hx : listed.getD j true with
        | true => rfl
        | false => exact absurd hi (tail_waits hsk hch hm inv _ j rfl hj hx i (Nat.le_refl _))
      have hnil : Region.ready .any l.toArray (listed.setIfInBounds i true) = [] := by
        rw [List.eq_nil_iff_forall_not_mem]
        intro j hj
        obtain ⟨hj1, o, ho, _⟩ := mem_ready.1 hj
        have hjl : j < l.toArray.size := (Array.getElem?_eq_some_iff.1 ho).1
        have hjl2 : j < i + 1 := by simp at hjl; omega
        by_cases e2 : j = i
        · subst e2
          have : j < listed.size := by rw [inv.size]; exact hjl
          simp [this] at hj1
        · rw [getD_set_ne true (by omega)] at hj1
          rw [hall j (by omega)] at hj1; cases hj1
      have hlt : i < l.length := by omega
      have hbi : (blankAt l i).toArray[i]? = some (blankOp l[i]) := by rw [blankAt_get, if_pos rfl, List.getElem?_eq_getElem hlt]; rfl
      obtain ⟨hg, hd⟩ := hlast l[i] (List.getElem?_eq_getElem hlt)
      unfold qOpIn at h2
      simp only [hbi] at h2
      have h3 := h2.2
      have hwt : ∀ y, Region.wanted (blankOp l[i]) y = true := fun y => by unfold Region.wanted blankOp; simp only [hg]
      rw [if_pos (hwt _)] at h3
      obtain ⟨v, _, h4⟩ := h3
      have hput : a.put (blankOp l[i]).dst v = a := by unfold blankOp; simp only [hd]; rfl
      rw [hput] at h4
      have h5 : wpOpIn F n P l.toArray Q i (fun a w => Q .normal a w) a w := by
        cases fuel with
        | zero => exact h4.2 w hw
        | succ f => exact h4.1 (by rw [blank_ready]; exact hnil) w hw
      refine wpOpIn_mono (fun a w hq => ?_) h5
      cases fuel with
      | zero => exact ⟨hnil, hq⟩
      | succ f => exact ⟨fun _ => hq, fun j hj => by rw [hnil] at hj; cases hj⟩
    · have him : i < m := by simp at hil; omega
      have hbi : (blankAt l m).toArray[i]? = l.toArray[i]? := by rw [blankAt_get, if_neg e]
      have h3 : qOpIn F n P l.toArray C i (wpAnyQIn F n P .any (blankAt l m).toArray C (fun a => ∀ w, C w → wpOpIn F n P l.toArray Q m (fun a w => Q .normal a w) a w) fuel (listed.setIfInBounds i true)) a := by
        unfold qOpIn at h2 ⊢
        rw [hbi, blank_yielded] at h2
        exact h2
      exact at_quiet_r (hs i) hw (fun a' w' hw' hk => ih _ a' w' hw' (inv.set hi him) hk) h3
theorem region_tail_r {id : Nat} {Q : Exit → Act → World → Prop} {a : Act} {w : World} {l : List Oper} (m : Nat) (hm : P.follows .mixedOrders = true) (hB : tailB l m = true)
    (h : wpQuietIn F n P l.toArray (fun w' => ∃ n, w' = w.drewN n) (fun a' => ∀ w', (∃ n, w' = w.drewN n) → wpListIn F n P l.toArray Q (l.drop m) a' w') (l.take m) a) : (Code.region id l.toArray true).wpIn F n P Q a w := by
  unfold tailB at hB
  simp only [Bool.and_eq_true, decide_eq_true_eq] at hB
  obtain ⟨⟨⟨⟨⟨⟨hl, hlex⟩, hbk⟩, hsk⟩, hch⟩, hdf⟩, hlast⟩ := hB
  have hmem : l[m]? = some (l[m]'(by omega)) := List.getElem?_eq_getElem (by omega)
  rw [hmem] at hlast
  simp only [Bool.and_eq_true, Option.isNone_iff_eq_none] at hlast
  have hs : ∀ (i : Nat) o, l.toArray[i]? = some o → ∀ ρ, Oper.semAt F.round ρ o = execOp ρ o := fun i o ho ρ => by
    refine Oper.semAt_eq _ ρ o fun c e => ?_
    have h1 := List.all_eq_true.1 hdf o (List.mem_of_getElem? (by simpa using ho))
    rw [e] at h1; cases h1
  simp only [Region.lexB, Bool.and_eq_true] at hlex
  have inv0 : HeadInv .any l.toArray m (Array.replicate l.toArray.size false) :=
    ⟨by simp, fun j oj _ hl => (by rw [getD_replicate_false] at hl; cases hl), fun t _ ht => getD_in (by simpa using ht) (getD_replicate_false _ _)⟩
  refine wpIn_region_any hm (any_tail (C := fun w' => ∃ n, w' = w.drewN n) hl hs hbk hsk hch (fun o ho => by rw [hmem] at ho; cases ho; exact hlast) _ _ _ _ ⟨1, rfl⟩ inv0 ?_)
  have hsplit : blankAt l m = l.take m ++ [blankOp (l[m]'(by omega))] := by
    unfold blankAt; rw [hmem]
    simp only
    rw [List.set_eq_take_append_cons_drop, if_pos (by omega), List.drop_of_length_le (by omega)]
  have h1 : wpQuietIn F n P (blankAt l m).toArray (fun w' => ∃ n, w' = w.drewN n) (fun a => ∀ w', (∃ n, w' = w.drewN n) → wpOpIn F n P l.toArray Q m (fun a w => Q .normal a w) a w') (blankAt l m) a := by
    refine wpQuietIn_ops (blank_yielded l m) ?_
    rw [hsplit]
    refine wpQuietIn_append ?_
    have hd : l.drop m = [l[m]'(by omega)] := by rw [List.drop_eq_getElem_cons (by omega), List.drop_of_length_le (by omega)]
    rw [hd] at h
    have hmono : ∀ {Q Q' : Act → Prop} (hq : ∀ a, Q a → Q' a) {l' : List Oper} {a : Act}, wpQuietIn F n P l.toArray (fun w' => ∃ n, w' = w.drewN n) Q l' a → wpQuietIn F n P l.toArray (fun w' => ∃ n, w' = w.drewN n) Q' l' a := by
      intro Q Q' hq l'
      induction l' with
      | nil => intro a h; exact hq a h
      | cons o l' ih =>
        intro a h
        refine ⟨h.1, ?_⟩
        have h2 := h.2
        split
        · rename_i hw; rw [if_pos hw] at h2; exact Oper.quietIn_mono (fun a h => ih h) h2
        · rename_i hw; rw [if_neg hw] at h2; exact ih h2
    refine hmono (fun a' hq => ?_) h
    refine ⟨fun w' _ f hf => by simp [Oper.about, blankOp] at hf, ?_⟩
    have hwt : ∀ y, Region.wanted (blankOp (l[m]'(by omega))) y = true := fun y => by unfold Region.wanted blankOp; simp only [hlast.1]
    rw [if_pos (hwt _)]
    refine ⟨undef, fun w' _ => ?_, fun w' hw' => ?_⟩
    · exact ⟨rfl, rfl⟩
    · have hput : a'.put (blankOp (l[m]'(by omega))).dst undef = a' := by unfold blankOp; simp only [hlast.2]; rfl
      rw [hput]
      have h2 := hq w' hw'
      unfold wpOpIn
      have hma : l.toArray[m]? = some (l[m]'(by omega)) := by simp
      rw [hma]
      simp only
      have h3 : wpListIn F n P l.toArray Q [l[m]'(by omega)] a' w' = if Region.wanted (l[m]'(by omega)) (yielded l.toArray a'.tmps) then (l[m]'(by omega)).wpIn F n P a' w' (wpListIn F n P l.toArray Q []) Q else (∀ f, (l[m]'(by omega)).about P w' a'.eval = some f → F.fn f) ∧ wpListIn F n P l.toArray Q [] (a'.put (l[m]'(by omega)).dst undef) w' := rfl
      rw [h3] at h2
      exact h2
  have h2 := wpAnyQIn_lex (F := F) (n := n) (C := fun w' => ∃ n, w' = w.drewN n) (md := .any) hlex.1 (blankAt l m) 0 (Array.replicate (blankAt l m).toArray.size false) a (by simp) (by simpa using hlex.2) h1
  have hlen : (blankAt l m).length = l.toArray.size := by rw [← blankAt_size l m]; simp
  rw [hlen, blankAt_size] at h2
  exact h2
end
end Go.Proofs.YtgjcfkadioblfaaGreat
namespace Go.Proofs.YtgjcfkadioblfaaGreat
open Go.RowKit Go.Deep
theorem Tryz.infoBo : (Tryz.prog.info? 4).map (fun i => (i.zero, i.size, i.bytes)) = some (some (.bool false), 1, 1) := by kernel_rfl
theorem kind_classes (c : Nat) : (97 ≤ c ∧ c ≤ 122) ∨ (65 ≤ c ∧ c ≤ 90) ∨ (48 ≤ c ∧ c ≤ 57) ∨ c = 94 ∨ c = 126 ∨ c = 37 ∨ c = 39 ∨ c = 32 ∨ c = 46 ∨ c = 44 ∨ c = 59 ∨ c = 58 ∨ c = 33 ∨ c = 63 ∨ c = 40 ∨ c = 41 ∨ c = 45 ∨
    ((c < 97 ∨ 122 < c) ∧ (c < 65 ∨ 90 < c) ∧ (c < 48 ∨ 57 < c) ∧ c ≠ 94 ∧ c ≠ 126 ∧ c ≠ 37 ∧ c ≠ 39 ∧ c ≠ 32 ∧ c ≠ 46 ∧ c ≠ 44 ∧ c ≠ 59 ∧ c ≠ 58 ∧ c ≠ 33 ∧ c ≠ 63 ∧ c ≠ 40 ∧ c ≠ 41 ∧ c ≠ 45) := by omega
def KindPost (c : Nat) (w : World) (e : Ending) (w' : World) : Prop := e = .returned (.int .i64 (kindL c)) ∧ w = w'
theorem kp {c : Nat} {n : Int} {w : World} (h : n = kindL c) : KindPost c w (.returned (.int .i64 n)) w := ⟨by rw [h], rfl⟩
set_option maxRecDepth 100000 in
set_option maxHeartbeats 400000 in
theorem kindR_const (c : Nat) (h : c ∈ [94, 126, 37, 39, 32, 46, 44, 59, 58, 33, 63, 40, 41, 45]) (w : World) : Calls Tryz.prog 182 #[.int .u8 c] w (KindPost c w) := by
  simp only [List.mem_cons, List.not_mem_nil, or_false] at h
  rcases h with rfl | rfl | rfl | rfl | rfl | rfl | rfl | rfl | rfl | rfl | rfl | rfl | rfl | rfl
  all_goals
    go_enter Tryz.func182, Tryz.ntmps182
    go_wp2
    go_ret
    exact kp rfl
set_option maxRecDepth 100000 in
set_option maxHeartbeats 400000 in
theorem kindR_o1 (c : Nat) (HK : Hid (kindL c = 0)) (hc : c < 256) (h : c < 48 ∨ (57 < c ∧ c < 65) ∨ (90 < c ∧ c < 97) ∨ 122 < c) (e94 : ((c : Int) == 94) = false) (e126 : ((c : Int) == 126) = false) (e37 : ((c : Int) == 37) = false) (e39 : ((c : Int) == 39) = false) (e32 : ((c : Int) == 32) = false) (e46 : ((c : Int) == 46) = false) (e44 : ((c : Int) == 44) = false) (e59 : ((c : Int) == 59) = false) (e58 : ((c : Int) == 58) = false) (e33 : ((c : Int) == 33) = false) (e63 : ((c : Int) == 63) = false) (e40 : ((c : Int) == 40) = false) (e41 : ((c : Int) == 41) = false) (e45 : ((c : Int) == 45) = false) (w : World) : Calls Tryz.prog 182 #[.int .u8 c] w (KindPost c w) := by
  rcases h with h1 | ⟨h1, h2⟩ | ⟨h1, h2⟩ | h1
  all_goals
    go_enter Tryz.func182, Tryz.ntmps182
    go_wp2
    go_ret
    exact kp HK.out.symm
theorem kindR_other (c : Nat) (hc : c < 256) (h1 : c < 97 ∨ 122 < c) (h2 : c < 65 ∨ 90 < c) (h3 : c < 48 ∨ 57 < c) (n94 : c ≠ 94) (n126 : c ≠ 126) (n37 : c ≠ 37) (n39 : c ≠ 39) (n32 : c ≠ 32) (n46 : c ≠ 46) (n44 : c ≠ 44) (n59 : c ≠ 59) (n58 : c ≠ 58) (n33 : c ≠ 33) (n63 : c ≠ 63) (n40 : c ≠ 40) (n41 : c ≠ 41) (n45 : c ≠ 45) (w : World) : Calls Tryz.prog 182 #[.int .u8 c] w (KindPost c w) := by
  have hk : kindL c = 0 := by
    unfold kindL isLet isPun
    rw [if_neg (by simp; omega), if_neg (by omega), if_neg (by omega), if_neg n39, if_neg n32, if_neg (by simp; omega)]
  have e94 : ((c : Int) == 94) = false := by rw [beq_eq_false_iff_ne]; omega
  have e126 : ((c : Int) == 126) = false := by rw [beq_eq_false_iff_ne]; omega
  have e37 : ((c : Int) == 37) = false := by rw [beq_eq_false_iff_ne]; omega
  have e39 : ((c : Int) == 39) = false := by rw [beq_eq_false_iff_ne]; omega
  have e32 : ((c : Int) == 32) = false := by rw [beq_eq_false_iff_ne]; omega
  have e46 : ((c : Int) == 46) = false := by rw [beq_eq_false_iff_ne]; omega
  have e44 : ((c : Int) == 44) = false := by rw [beq_eq_false_iff_ne]; omega
  have e59 : ((c : Int) == 59) = false := by rw [beq_eq_false_iff_ne]; omega
  have e58 : ((c : Int) == 58) = false := by rw [beq_eq_false_iff_ne]; omega
  have e33 : ((c : Int) == 33) = false := by rw [beq_eq_false_iff_ne]; omega
  have e63 : ((c : Int) == 63) = false := by rw [beq_eq_false_iff_ne]; omega
  have e40 : ((c : Int) == 40) = false := by rw [beq_eq_false_iff_ne]; omega
  have e41 : ((c : Int) == 41) = false := by rw [beq_eq_false_iff_ne]; omega
  have e45 : ((c : Int) == 45) = false := by rw [beq_eq_false_iff_ne]; omega
  exact kindR_o1 c hk hc (by omega) e94 e126 e37 e39 e32 e46 e44 e59 e58 e33 e63 e40 e41 e45 w
set_option maxRecDepth 100000 in
set_option maxHeartbeats 400000 in
theorem kindR_range (c : Nat) (hc : c < 256) (h : (97 ≤ c ∧ c ≤ 122) ∨ (65 ≤ c ∧ c ≤ 90) ∨ (48 ≤ c ∧ c ≤ 57)) (w : World) : Calls Tryz.prog 182 #[.int .u8 c] w (KindPost c w) := by
  rcases h with ⟨h1, h2⟩ | ⟨h1, h2⟩ | ⟨h1, h2⟩
  · have hk : kindL c = 1 := by unfold kindL isLet; rw [if_pos (by simp; omega)]
    have HK := Lib.hid hk
    clear hk
    go_enter Tryz.func182, Tryz.ntmps182
    go_wp2
    go_ret
    exact kp HK.out.symm
  · have hk : kindL c = 1 := by unfold kindL isLet; rw [if_pos (by simp; omega)]
    have HK := Lib.hid hk
    clear hk
    go_enter Tryz.func182, Tryz.ntmps182
    go_wp2
    go_ret
    exact kp HK.out.symm
  · have hk : kindL c = 3 := by unfold kindL isLet; rw [if_neg (by simp; omega), if_neg (by omega), if_pos (by omega)]
    have HK := Lib.hid hk
    clear hk
    have e94 : ((c : Int) == 94) = false := by rw [beq_eq_false_iff_ne]; omega
    have e126 : ((c : Int) == 126) = false := by rw [beq_eq_false_iff_ne]; omega
    have e37 : ((c : Int) == 37) = false := by rw [beq_eq_false_iff_ne]; omega
    go_enter Tryz.func182, Tryz.ntmps182
    go_wp2
    go_ret
    exact kp HK.out.symm
theorem kindR_t (c : Nat) (hc : c < 256) (w : World) : Calls Tryz.prog 182 #[.int .u8 c] w fun e w' => e = .returned (.int .i64 (kindL c)) ∧ w = w' := by
  have h := kind_classes c
  rcases h with h | h | h | h | h | h | h | h | h | h | h | h | h | h | h | h | h | ⟨h1, h2, h3, n94, n126, n37, n39, n32, n46, n44, n59, n58, n33, n63, n40, n41, n45⟩
  · exact kindR_range c hc (.inl h) w
  · exact kindR_range c hc (.inr (.inl h)) w
  · exact kindR_range c hc (.inr (.inr h)) w
  · exact kindR_const c (by rw [h]; decide) w
  · exact kindR_const c (by rw [h]; decide) w
  · exact kindR_const c (by rw [h]; decide) w
  · exact kindR_const c (by rw [h]; decide) w
  · exact kindR_const c (by rw [h]; decide) w
  · exact kindR_const c (by rw [h]; decide) w
  · exact kindR_const c (by rw [h]; decide) w
  · exact kindR_const c (by rw [h]; decide) w
  · exact kindR_const c (by rw [h]; decide) w
  · exact kindR_const c (by rw [h]; decide) w
  · exact kindR_const c (by rw [h]; decide) w
  · exact kindR_const c (by rw [h]; decide) w
  · exact kindR_const c (by rw [h]; decide) w
  · exact kindR_const c (by rw [h]; decide) w
  · exact kindR_other c hc h1 h2 h3 n94 n126 n37 n39 n32 n46 n44 n59 n58 n33 n63 n40 n41 n45 w
theorem cntA_le16 (l : List UInt8) : cntA l ≤ l.length := cntA_le l
set_option maxHeartbeats 400000 in
theorem lettersR_t (s : ByteArray) (hs : s.size ≤ 70000) (w : World) : Calls Tryz.prog 165 #[.string s] w fun e w' => e = .returned (.int .i64 (cntA s.data.toList)) ∧ w = w' := by
  go_enter Tryz.func165, Tryz.ntmps165
  go_wp2
  go_loop [3, 4, 5] (fun n i _ => ∃ k : Nat, k ≤ s.size ∧ i = .int .i64 k ∧ n = .int .i64 (cntA (s.data.toList.take k))) (fun _ i _ => s.size - (intOf i).toNat)
  case atStart => exact ⟨0, Nat.zero_le _, rfl, rfl⟩
  case round =>
    obtain ⟨k, hk, rfl, rfl⟩ := hrel
    have hb : cntA (s.data.toList.take k) ≤ 70000 := Nat.le_trans (cntA_le _) (by simp; omega)
    by_cases hlt : k < s.size
    · have hst := letters_step s k hlt
      have hk' := kind_aln s[k]
      have hc : s[k].toNat < 256 := s[k].toNat_lt
      generalize hm : cntA (s.data.toList.take k) = m at *
      have HS := Lib.hid hst
      have HK := Lib.hid hk'
      clear hst hm hk'
      go_wp2_with (go_at_call 182; refine (kindR_t _ hc _).mono ?_; rintro e w' ⟨rfl, rfl⟩; generalize kindL _ = q at *)
      all_goals
        go_round
        case rel => exact ⟨k + 1, by omega, by go_num, by rw [HS.out]; first | (rw [if_pos (HK.out.1 (by first | omega | (simp only [beq_iff_eq] at *; omega)))]; go_num) | (rw [if_neg (fun h => by have := HK.out.2 h; simp only [beq_eq_false_iff_ne, ne_eq] at *; omega)]; go_num)⟩
        case measure => simp [intOf]; omega
    · go_wp2
      go_ret
      exact ⟨ret_int (by rw [List.take_of_length_le (by simp; omega)]), rfl⟩
end Go.Proofs.YtgjcfkadioblfaaGreat
namespace Go.Proofs.YtgjcfkadioblfaaGreat
open Go.RowKit Go.Deep
def RtPost (w : World) (n : Nat) (e : Ending) (w' : World) : Prop := Below w.heap.size w w' ∧ ∃ v, ∃ bs : List Bool, e = .returned v ∧ bs.length = n ∧ SlAt Any w' v n (fun k => .bool (gb bs k))
theorem Owns.bools {base : Nat} {e : TypeId} {w : World} {v : Value} {xs : List Bool} (h : Owns base e w v (xs.map Value.bool)) : SlAt (fun b => base ≤ b) w v xs.length (fun k => .bool (gb xs k)) := by
  have := h.slAt
  rw [List.length_map] at this
  exact this.congr fun k hk => by simp [gb, hk]
theorem SlAt.at0 {S : Nat → Prop} {w : World} {b n cap : Nat} {f : Nat → Value} {o : Nat} (h : SlAt S w (.slice (some ⟨b, o, none⟩) n cap) n f) {k : Nat} (hk : k < n) : w.cell? ⟨b, o + k, none⟩ = some (f k) := by
  obtain ⟨p, c, e, _, H⟩ := h.open
  cases e
  obtain ⟨b', o', e', hc⟩ := H k hk
  cases e'
  exact hc
theorem Owns.form {base : Nat} {e : TypeId} {w : World} {v : Value} {vs : List Value} {n : Nat} (h : Owns base e w v vs) (hn : vs.length = n) : ∃ p cap, v = .slice p n cap ∧ (p = none ∨ ∃ g, p = some ⟨g, 0, none⟩) := by
  subst hn
  rcases h.2 with ⟨rfl, h0⟩ | ⟨g, cap, cur, rfl, _⟩
  · exact ⟨none, 0, by rw [h0], .inl rfl⟩
  · exact ⟨_, cap, rfl, .inr ⟨g, rfl⟩⟩
theorem Owns.made (w : World) (e : TypeId) : Owns w.heap.size e (w.alloc (.cells #[] e)) (.slice (some ⟨w.heap.size, 0, none⟩) 0 0) [] := World.ownsRow_made w #[] 0 (Nat.le_refl _) (by unfold maxLen; omega) (by simp)
set_option maxRecDepth 100000 in
set_option maxHeartbeats 400000 in
theorem right_t (s : ByteArray) (hs : s.size ≤ 1000) (w : World) : Calls Tryz.prog 195 #[.string s] w (RtPost w s.size) := by
  go_enter Tryz.func195, Tryz.ntmps195
  go_wp2
  go_loopw [3, 4] (fun v i wr => ∃ k : Nat, ∃ bs : List Bool, k ≤ s.size ∧ i = .int .i64 k ∧ bs.length = k ∧ Owns w.heap.size 4 wr v (bs.map .bool) ∧ Below w.heap.size w wr) (fun _ i _ => s.size - (intOf i).toNat)
  case atStart => exact ⟨0, [], Nat.zero_le _, rfl, rfl, Owns.made _ _, (Below.refl _ _).alloc (Nat.le_refl _) _⟩
  case round =>
    obtain ⟨k, bs, hk, rfl, hbl, hown, hbr⟩ := hrel
    have hsz := hbr.size
    have HBL := Lib.hid hbl
    by_cases hlt : k < s.size
    · have HLL : Hid ((bs.map Value.bool).length ≤ 1000000) := by unfold Hid; rw [List.length_map]; omega
      clear hbl
      rcases Nat.eq_zero_or_pos k with rfl | hk0
      · go_wp2_with (first | (go_at_call 182; refine (kindR_t _ (UInt8.toNat_lt _) _).mono ?_; rintro e w' ⟨rfl, rfl⟩; generalize kindL _ = q at *) | (at_builtin; refine wpList_app1 wr rfl _ _ 130 rfl w.heap.size 4 _ 1 Tryz.underlying130 Tryz.infoBo rfl (by decide) hown rfl _ rfl rfl HLL.out hsz ?_; intro g cap w2 hown1 hg1 hb1))
        all_goals
          go_roundw
          case rel => exact ⟨1, bs ++ [_], by omega, by go_num, by rw [List.length_append, HBL.out]; rfl, by rw [List.map_append]; rw [List.length_map] at hown1; exact hown1, hbr.trans hb1⟩
          case measure => simp [intOf]; omega
      · have hsl := hown.bools
        obtain ⟨p, cap, rfl, hp⟩ := hown.form (n := k) (by rw [List.length_map]; exact HBL.out)
        rw [HBL.out] at hsl
        obtain ⟨p', cap', e', hcap', H⟩ := hsl.open
        cases e'
        obtain ⟨b, off, rfl, hc⟩ := H (k - 1) (by have := HBL.out; omega)
        clear H hsl hp
        go_wp2_with (first | (go_at_call 182; refine (kindR_t _ (UInt8.toNat_lt _) _).mono ?_; rintro e w' ⟨rfl, rfl⟩; generalize kindL _ = q at *) | (at_builtin; refine wpList_app1 wr rfl _ _ 130 rfl w.heap.size 4 _ 1 Tryz.underlying130 Tryz.infoBo rfl (by decide) hown rfl _ rfl rfl HLL.out hsz ?_; intro g cap w2 hown1 hg1 hb1))
        all_goals
          go_roundw
          case rel => exact ⟨k + 1, bs ++ [_], by omega, by go_num, by rw [List.length_append, HBL.out]; rfl, by rw [List.map_append]; rw [List.length_map] at hown1; exact hown1, hbr.trans hb1⟩
          case measure => simp [intOf]; omega
    · obtain rfl : k = s.size := by omega
      clear hlt hk hbl
      go_wp2
      go_ret
      exact ⟨hbr, _, bs, rfl, HBL.out, (by rw [← HBL.out]; exact hown.bools.sub fun _ _ _ => trivial)⟩
end Go.Proofs.YtgjcfkadioblfaaGreat
