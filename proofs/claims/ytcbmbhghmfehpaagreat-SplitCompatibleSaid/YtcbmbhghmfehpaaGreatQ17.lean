/- A region that draws its order, only reads, and ends in one operation that may write: outside a round. The walk of sharederror.Consistent. The contract of slices.Sort at ints: the laying. slices.Sort at ints that the call has built. The law's leaves. What the sets of Consistent hold; at Tree's tree. The sets that layer 35's reference makes a tree of, and that tree: plain. -/
import Derived.Test.YtcbmbhghmfehpaaGreatQ3
import Derived.Test.YtcbmbhghmfehpaaGreatQ15
import Derived.Test.YtcbmbhghmfehpaaGreatQ16
import Derived.Shelf.SlGeneric
import Derived.Shelf.SlLaysM
import Derived.Ground.SlgmProg
import Derived.Test.YtcbmbhghmfehpaaGreatProg
import Derived.Test.YtcbmbhghmfehpaaGreatQ4
import Derived.Test.YtcbmbhghmfehpaaGreatQ1
import Derived.Shelf.SortM.Plain
import Derived.Shelf.SortM.SortNone
import Derived.Sort.OwnSortedInts
namespace Go.Proofs.YtcbmbhghmfehpaaGreat
open Go.RowKit Go.Shelf Go.Deep
section
variable {P : Program} {C : World → Prop}
theorem wpQuietP_append {ops : Array Oper} {Q : Act → Prop} : ∀ {l₁ l₂ : List Oper} {a : Act}, wpQuiet P ops C (fun a => wpQuiet P ops C Q l₂ a) l₁ a → wpQuiet P ops C Q (l₁ ++ l₂) a
  | [], _, _, h => h
  | o :: l₁, l₂, a, h => by
    have h2 := h
    unfold wpQuiet at h2
    show (if _ then _ else _)
    split
    · rename_i hw; rw [if_pos hw] at h2; exact Oper.quiet_mono (fun a h => wpQuietP_append h) h2
    · rename_i hw; rw [if_neg hw] at h2; exact wpQuietP_append h2
theorem wpQuietP_ops {ops ops' : Array Oper} (hy : yielded ops' = yielded ops) {Q : Act → Prop} : ∀ {l : List Oper} {a : Act}, wpQuiet P ops C Q l a → wpQuiet P ops' C Q l a
  | [], _, h => h
  | o :: l, a, h => by
    have h2 := h
    unfold wpQuiet at h2
    show (if _ then _ else _)
    rw [hy]
    split
    · rename_i hw; rw [if_pos hw] at h2; exact Oper.quiet_mono (fun a h => wpQuietP_ops hy h) h2
    · rename_i hw; rw [if_neg hw] at h2; exact wpQuietP_ops hy h2
theorem any_tailP {l : List Oper} {m : Nat} {Q : Exit → Act → World → Prop} (hl : l.length = m + 1) (hb : backB l = true) (hsk : Region.sinkB .any l.toArray m = true) (hch : Region.chainB .any l.toArray m = true) (hlast : ∀ o, l[m]? = some o → o.guard = none ∧ o.dst = none) (fuel : Nat) :
    ∀ (listed : Array Bool) (a : Act) (w : World), C w → HeadInv .any l.toArray m listed →
      wpAnyQ P .any (blankAt l m).toArray C (fun a => ∀ w, C w → wpOp P l.toArray Q m (fun a w => Q .normal a w) a w) fuel listed a → wpAny P .any l.toArray Q fuel listed a w := by
  have hm : m < l.toArray.size := by simp; omega
  induction fuel with
  | zero =>
    intro listed a w _ inv h
    have h1 := h.1
    rw [blank_ready] at h1
    exact absurd h1 (ready_some hl hb inv.size ⟨m, Nat.le_refl _, inv.tail m (Nat.le_refl _) hm⟩)
  | succ fuel ih =>
    intro listed a w hw inv h
    refine ⟨fun h0 => absurd h0 (ready_some hl hb inv.size ⟨m, Nat.le_refl _, inv.tail m (Nat.le_refl _) hm⟩), fun i hi => ?_⟩
    have h2 := h.2 i (by rw [blank_ready]; exact hi)
    have hil : i < l.toArray.size := (Array.getElem?_eq_some_iff.1 (mem_ready.1 hi).2.choose_spec.1).1
    by_cases e : i = m
    · subst e
      have hall : ∀ j, j < i → listed.getD j true = true := fun j hj => by
        cases hx : listed.getD j true with
        | true => rfl
        | false => exact absurd hi (tail_waits hsk hch hm inv _ j rfl hj hx i (Nat.le_refl _))
      have hnil : Region.ready .any l.toArray (listed.setIfInBounds i true) = [] := by
        rw [List.eq_nil_iff_forall_not_mem]
        intro j hj
        obtain ⟨hj1, o, ho, _⟩ := mem_ready.1 hj
        have hjl : j < l.toArray.size := (Array.getElem?_eq_some_iff.1 ho).1
        have hjl2 : j < i + 1 := by simp at hjl; omega
        by_cases e2 : j = i
        · subst e2
          have : j < listed.size := by rw [inv.size]; exact hjl
          simp [this] at hj1
        · rw [getD_set_ne true (by omega)] at hj1
          rw [hall j (by omega)] at hj1; cases hj1
      have hlt : i < l.length := by omega
      have hbi : (blankAt l i).toArray[i]? = some (blankOp l[i]) := by rw [blankAt_get, if_pos rfl, List.getElem?_eq_getElem hlt]; rfl
      obtain ⟨hg, hd⟩ := hlast l[i] (List.getElem?_eq_getElem hlt)
      unfold qOp at h2
      simp only [hbi] at h2
      have h3 := h2
      have hwt : ∀ y, Region.wanted (blankOp l[i]) y = true := fun y => by unfold Region.wanted blankOp; simp only [hg]
      rw [if_pos (hwt _)] at h3
      obtain ⟨v, _, h4⟩ := h3
      have hput : a.put (blankOp l[i]).dst v = a := by unfold blankOp; simp only [hd]; rfl
      rw [hput] at h4
      have h5 : wpOp P l.toArray Q i (fun a w => Q .normal a w) a w := by
        cases fuel with
        | zero => exact h4.2 w hw
        | succ f => exact h4.1 (by rw [blank_ready]; exact hnil) w hw
      refine wpOp_mono (fun a w hq => ?_) h5
      cases fuel with
      | zero => exact ⟨hnil, hq⟩
      | succ f => exact ⟨fun _ => hq, fun j hj => by rw [hnil] at hj; cases hj⟩
    · have him : i < m := by simp at hil; omega
      have hbi : (blankAt l m).toArray[i]? = l.toArray[i]? := by rw [blankAt_get, if_neg e]
      have h3 : qOp P l.toArray C i (wpAnyQ P .any (blankAt l m).toArray C (fun a => ∀ w, C w → wpOp P l.toArray Q m (fun a w => Q .normal a w) a w) fuel (listed.setIfInBounds i true)) a := by
        unfold qOp at h2 ⊢
        rw [hbi, blank_yielded] at h2
        exact h2
      exact wpOp_of_qOp hw (fun a' w' hw' hk => ih _ a' w' hw' (inv.set hi him) hk) h3
theorem region_tail_p {id : Nat} {Q : Exit → Act → World → Prop} {a : Act} {w : World} {l : List Oper} (m : Nat) (hm : P.follows .mixedOrders = true) (hB : tailB l m = true)
    (h : wpQuiet P l.toArray (fun w' => ∃ n, w' = w.drewN n) (fun a' => ∀ w', (∃ n, w' = w.drewN n) → wpList P l.toArray Q (l.drop m) a' w') (l.take m) a) : (Code.region id l.toArray true).wp P Q a w := by
  unfold tailB at hB
  simp only [Bool.and_eq_true, decide_eq_true_eq] at hB
  obtain ⟨⟨⟨⟨⟨⟨hl, hlex⟩, hbk⟩, hsk⟩, hch⟩, hdf⟩, hlast⟩ := hB
  have hmem : l[m]? = some (l[m]'(by omega)) := List.getElem?_eq_getElem (by omega)
  rw [hmem] at hlast
  simp only [Bool.and_eq_true, Option.isNone_iff_eq_none] at hlast
  simp only [Region.lexB, Bool.and_eq_true] at hlex
  have inv0 : HeadInv .any l.toArray m (Array.replicate l.toArray.size false) :=
    ⟨by simp, fun j oj _ hl => (by rw [getD_replicate_false] at hl; cases hl), fun t _ ht => getD_in (by simpa using ht) (getD_replicate_false _ _)⟩
  refine wp_region_any hm (any_tailP (C := fun w' => ∃ n, w' = w.drewN n) hl hbk hsk hch (fun o ho => by rw [hmem] at ho; cases ho; exact hlast) _ _ _ _ ⟨1, rfl⟩ inv0 ?_)
  have hsplit : blankAt l m = l.take m ++ [blankOp (l[m]'(by omega))] := by
    unfold blankAt; rw [hmem]
    simp only
    rw [List.set_eq_take_append_cons_drop, if_pos (by omega), List.drop_of_length_le (by omega)]
  have h1 : wpQuiet P (blankAt l m).toArray (fun w' => ∃ n, w' = w.drewN n) (fun a => ∀ w', (∃ n, w' = w.drewN n) → wpOp P l.toArray Q m (fun a w => Q .normal a w) a w') (blankAt l m) a := by
    refine wpQuietP_ops (blank_yielded l m) ?_
    rw [hsplit]
    refine wpQuietP_append ?_
    have hd : l.drop m = [l[m]'(by omega)] := by rw [List.drop_eq_getElem_cons (by omega), List.drop_of_length_le (by omega)]
    rw [hd] at h
    have hmono : ∀ {Q Q' : Act → Prop} (hq : ∀ a, Q a → Q' a) {l' : List Oper} {a : Act}, wpQuiet P l.toArray (fun w' => ∃ n, w' = w.drewN n) Q l' a → wpQuiet P l.toArray (fun w' => ∃ n, w' = w.drewN n) Q' l' a := by
      intro Q Q' hq l'
      induction l' with
      | nil => intro a h; exact hq a h
      | cons o l' ih =>
        intro a h
        have h2 := h
        unfold wpQuiet at h2
        show (if _ then _ else _)
        split
        · rename_i hw; rw [if_pos hw] at h2; exact Oper.quiet_mono (fun a h => ih h) h2
        · rename_i hw; rw [if_neg hw] at h2; exact ih h2
    refine hmono (fun a' hq => ?_) h
    show (if _ then _ else _)
    have hwt : ∀ y, Region.wanted (blankOp (l[m]'(by omega))) y = true := fun y => by unfold Region.wanted blankOp; simp only [hlast.1]
    rw [if_pos (hwt _)]
    refine ⟨undef, fun w' _ => ?_, fun w' hw' => ?_⟩
    · exact ⟨rfl, rfl⟩
    · have hput : a'.put (blankOp (l[m]'(by omega))).dst undef = a' := by unfold blankOp; simp only [hlast.2]; rfl
      rw [hput]
      have h2 := hq w' hw'
      unfold wpOp
      have hma : l.toArray[m]? = some (l[m]'(by omega)) := by simp
      rw [hma]
      simp only
      exact h2
  have h2 := wpAnyQ_lex (C := fun w' => ∃ n, w' = w.drewN n) (md := .any) hlex.1 (blankAt l m) 0 (Array.replicate (blankAt l m).toArray.size false) a (by simp) (by simpa using hlex.2) h1
  have hlen : (blankAt l m).length = l.toArray.size := by rw [← blankAt_size l m]; simp
  rw [hlen, blankAt_size] at h2
  exact h2
end
end Go.Proofs.YtcbmbhghmfehpaaGreat
namespace Go.Proofs.YtcbmbhghmfehpaaGreat
open Go.RowKit Go.Shelf Go.Deep
/-- The array of sets, in block B. -/
structure OwW (w0 wr : World) (B n : Nat) (o : List Nat) : Prop where
  up : Up w0 wr
  row : wr.rowIs B 97 n (fun j => .int .u64 (gn o j))
  lo : w0.heap.size ≤ B
theorem gn_zeros (n j : Nat) : gn (List.replicate n 0) j = 0 := by
  unfold gn
  by_cases h : j < n
  · simp [h]
  · simp [h]
theorem gn_set {o : List Nat} {q x : Nat} (hq : q < o.length) (j : Nat) : gn (o.set q x) j = if j = q then x else gn o j := by
  unfold gn
  rw [List.getD_eq_getElem?_getD, List.getElem?_set, List.getD_eq_getElem?_getD]
  by_cases e : j = q
  · subst e; rw [if_pos rfl, if_pos hq, if_pos rfl]; rfl
  · rw [if_neg (fun h => e h.symm), if_neg e]
theorem OwW.start (w0 : World) (n : Nat) : OwW w0 (w0.alloc (.cells (madeCells #[.int .u64 0] n) 97)) w0.heap.size n (List.replicate n 0) :=
  ⟨Up.alloc _ _, (World.rowIs_made w0 _ n _).congr fun i _ => by simp [gn_zeros], Nat.le_refl _⟩
theorem OwW.set {w0 wr : World} {B n q x : Nat} {o : List Nat} (h : OwW w0 wr B n o) (hq : q < o.length) : OwW w0 (wr.setCell ⟨B, q, none⟩ (.int .u64 x)) B n (o.set q x) :=
  ⟨Below.setCell (p := ⟨B, q, none⟩) h.up h.lo _, (h.row.set q _).congr fun i _ => by
    rw [gn_set hq]
    by_cases e : i = q
    · simp [e]
    · simp [e], h.lo⟩
theorem OwW.drewN {w0 wr : World} {B n : Nat} {o : List Nat} (h : OwW w0 wr B n o) (m : Nat) : OwW w0 (wr.drewN m) B n o :=
  ⟨h.up.trans (Up.drewN _ _), h.row, h.lo⟩
end Go.Proofs.YtcbmbhghmfehpaaGreat
namespace Go.Proofs
open Go.Shelf
def Tryz.sortZ_ren : Go.Shelf.Ren := ⟨fun | 5 => 151 | 8 => 94 | 7 => 193 | 19 => 165 | 20 => 166 | 10 => 223 | 11 => 224 | 12 => 225 | 13 => 226 | 14 => 227 | 15 => 228 | 16 => 229 | 17 => 230 | 18 => 231 | 30 => 247 | 31 => 199 | 32 => 200 | 33 => 248 | 34 => 249 | 35 => 156 | 40 => 261 | n => n, fun | 23 => 26 | 25 => 3 | 3 => 3 | 32 => 118 | 22 => 26 | 0 => 0 | 44 => 180 | 46 => 96 | 4 => 4 | 36 => 173 | 35 => 172 | 41 => 177 | 5 => 5 | 9 => 9 | 53 => 212 | 57 => 216 | 63 => 248 | 64 => 126 | n => n, fun | n => n⟩
theorem Tryz.sortZ : Go.Proofs.SlLaysM.n5 Tryz.prog Tryz.sortZ_ren := {
  mixed := by kernel_rfl
  f5 := ⟨Tryz.f151.name, by decide, Tryz.func151.trans (congrArg some (by kernel_rfl))⟩
  f7 := ⟨Tryz.f193.name, by decide, Tryz.func193.trans (congrArg some (by kernel_rfl))⟩
  f8 := Tryz.func94.trans (congrArg some (by kernel_rfl))
  f10 := ⟨Tryz.f223.name, by decide, Tryz.func223.trans (congrArg some (by kernel_rfl))⟩
  f11 := ⟨Tryz.f224.name, by decide, Tryz.func224.trans (congrArg some (by kernel_rfl))⟩
  f12 := ⟨Tryz.f225.name, by decide, Tryz.func225.trans (congrArg some (by kernel_rfl))⟩
  f13 := ⟨Tryz.f226.name, by decide, Tryz.func226.trans (congrArg some (by kernel_rfl))⟩
  f14 := ⟨Tryz.f227.name, by decide, Tryz.func227.trans (congrArg some (by kernel_rfl))⟩
  f15 := ⟨Tryz.f228.name, by decide, Tryz.func228.trans (congrArg some (by kernel_rfl))⟩
  f16 := ⟨Tryz.f229.name, by decide, Tryz.func229.trans (congrArg some (by kernel_rfl))⟩
  f17 := ⟨Tryz.f230.name, by decide, Tryz.func230.trans (congrArg some (by kernel_rfl))⟩
  f18 := ⟨Tryz.f231.name, by decide, Tryz.func231.trans (congrArg some (by kernel_rfl))⟩
  f19 := Tryz.func165.trans (congrArg some (by kernel_rfl))
  f20 := Tryz.func166.trans (congrArg some (by kernel_rfl))
  f30 := ⟨Tryz.f247.name, by decide, Tryz.func247.trans (congrArg some (by kernel_rfl))⟩
  f31 := Tryz.func199.trans (congrArg some (by kernel_rfl))
  f32 := Tryz.func200.trans (congrArg some (by kernel_rfl))
  f33 := ⟨Tryz.f248.name, by decide, Tryz.func248.trans (congrArg some (by kernel_rfl))⟩
  f34 := ⟨Tryz.f249.name, by decide, Tryz.func249.trans (congrArg some (by kernel_rfl))⟩
  f35 := ⟨Tryz.f156.name, by decide, Tryz.func156.trans (congrArg some (by kernel_rfl))⟩
  f40 := ⟨Tryz.f261.name, by decide, Tryz.func261.trans (congrArg some (by kernel_rfl))⟩
  t0 := Tryz.underlying0
  a0 := Tryz.isAgg0
  z0 := Tryz.sizeOf0
  v0 := Tryz.zeroValue0
  t3 := Tryz.underlying3
  a3 := Tryz.isAgg3
  z3 := Tryz.sizeOf3
  v3 := Tryz.zeroValue3
  t4 := Tryz.underlying4
  a4 := Tryz.isAgg4
  z4 := Tryz.sizeOf4
  v4 := Tryz.zeroValue4
  t5 := Tryz.underlying5
  a5 := Tryz.isAgg5
  z5 := Tryz.sizeOf5
  v5 := Tryz.zeroValue5
  t9 := Tryz.underlying9
  a9 := Tryz.isAgg9
  z9 := Tryz.sizeOf9
  v9 := Tryz.zeroValue9
  t22 := Tryz.underlying26
  a22 := Tryz.isAgg26
  z22 := Tryz.sizeOf26
  v22 := Tryz.zeroValue26
  t23 := Tryz.underlying26
  a23 := Tryz.isAgg26
  z23 := Tryz.sizeOf26
  v23 := Tryz.zeroValue26
  t25 := Tryz.underlying3
  a25 := Tryz.isAgg3
  z25 := Tryz.sizeOf3
  v25 := Tryz.zeroValue3
  t32 := Tryz.underlying118
  a32 := Tryz.isAgg118
  z32 := Tryz.sizeOf118
  v32 := Tryz.zeroValue118
  t35 := Tryz.underlying172
  a35 := Tryz.isAgg172
  z35 := Tryz.sizeOf172
  v35 := Tryz.zeroValue172
  t36 := Tryz.underlying173
  a36 := Tryz.isAgg173
  z36 := Tryz.sizeOf173
  v36 := Tryz.zeroValue173
  t41 := Tryz.underlying177
  a41 := Tryz.isAgg177
  z41 := Tryz.sizeOf177
  v41 := Tryz.zeroValue177
  t44 := Tryz.underlying180
  a44 := Tryz.isAgg180
  z44 := Tryz.sizeOf180
  v44 := Tryz.zeroValue180
  t46 := Tryz.underlying96
  a46 := Tryz.isAgg96
  z46 := Tryz.sizeOf96
  v46 := Tryz.zeroValue96
  t53 := Tryz.underlying212
  a53 := Tryz.isAgg212
  z53 := Tryz.sizeOf212
  v53 := Tryz.zeroValue212
  t57 := Tryz.underlying216
  a57 := Tryz.isAgg216
  z57 := Tryz.sizeOf216
  v57 := Tryz.zeroValue216
  t63 := Tryz.underlying248
  a63 := Tryz.isAgg248
  z63 := Tryz.sizeOf248
  v63 := Tryz.zeroValue248
  t64 := Tryz.underlying126
  a64 := Tryz.isAgg126
  z64 := Tryz.sizeOf126
  v64 := Tryz.zeroValue126 }
end Go.Proofs
namespace Go.Proofs.YtcbmbhghmfehpaaGreat
open Go.RowKit Go.Shelf Go.Deep Go.Sort
def sortL (xs : List Int) : List Int := xs.mergeSort fun x y => decide (x ≤ y)
theorem sortL_len (xs : List Int) : (sortL xs).length = xs.length := List.length_mergeSort _
end Go.Proofs.YtcbmbhghmfehpaaGreat
namespace Go.Proofs.YtcbmbhghmfehpaaGreat
open Go.RowKit Go.Deep
end Go.Proofs.YtcbmbhghmfehpaaGreat
namespace Go.Proofs.YtcbmbhghmfehpaaGreat
/-- A leaf below node i has the number b. -/
def Under (t : Tre) (num : ByteArray → Nat) (i b : Nat) : Prop := ∃ j, j < t.ps.length ∧ (gs t.ns j).size ≠ 0 ∧ hitB t.ps i j = true ∧ num (gs t.ns j) = b
structure OwnInv (t : Tre) (num : ByteArray → Nat) (k : Nat) (o : List Nat) : Prop where
  len : o.length = t.ps.length
  up : ∀ i, k ≤ i → i < t.ps.length → ∀ b, (gn o i).testBit b = true ↔ Under t num i b
  down : ∀ i, i < k → i < t.ps.length → ∀ b, (gn o i).testBit b = true ↔ ∃ c, k ≤ c ∧ c < t.ps.length ∧ gi t.ps c = (i : Int) ∧ Under t num c b
section
variable {names : List ByteArray} {l : List Grp}
theorem lvs_count (ns : List ByteArray) : (leavesL ns).length = (fltN ns).length := by
  unfold leavesL
  rw [List.length_map]
  have h : ∀ k, k ≤ ns.length → ((List.range k).filter fun i => (gs ns i).size ≠ 0).length = (fltN (ns.take k)).length := by
    intro k
    induction k with
    | zero => intro _; rfl
    | succ k ih =>
      intro hk
      have hg : gs ns k = ns[k] := by simp [gs, show k < ns.length by omega]
      rw [List.range_succ, List.filter_append, List.length_append, ih (by omega), List.take_succ_eq_append_getElem (show k < ns.length by omega), fltN_app, List.length_append, ← hg]
      congr 1
      unfold fltN
      by_cases e : (gs ns k).size ≠ 0
      · rw [List.filter_cons_of_pos (by simpa using e), List.filter_cons_of_pos (by simpa using e)]; rfl
      · rw [List.filter_cons_of_neg (by simpa using e), List.filter_cons_of_neg (by simpa using e)]; rfl
  have := h ns.length (Nat.le_refl _)
  rw [List.take_length] at this
  exact this
end
end Go.Proofs.YtcbmbhghmfehpaaGreat
namespace Go.Proofs.YtcbmbhghmfehpaaGreat
def allI (n : Nat) : List Int := (List.range n).map fun (i : Nat) => (i : Int)
theorem mem_allI {n : Nat} {x : Int} : x ∈ allI n ↔ 0 ≤ x ∧ x < n := by
  unfold allI
  rw [List.mem_map]
  constructor
  · rintro ⟨i, hi, rfl⟩
    have := List.mem_range.1 hi; omega
  · rintro ⟨h0, h1⟩
    exact ⟨x.toNat, List.mem_range.2 (by omega), by omega⟩
theorem allI_len (n : Nat) : (allI n).length = n := by unfold allI; rw [List.length_map, List.length_range]
def knB (c : Bool) (S : List (List Int)) (s : List Int) : Nat → Bool
  | 0 => c
  | k + 1 => knB c S s k || decide (gl S k = s)
def stI (l : List Grp) (S : List (List Int)) (size : Nat) : Nat → List (List Int)
  | 0 => S
  | i + 1 => if knB (decide ((gg l i).src.length ≠ size)) (stI l S size i) (gg l i).src (stI l S size i).length then stI l S size i else stI l S size i ++ [(gg l i).src]
def stZ (n : Nat) (l : List Grp) : Nat → List (List Int)
  | 0 => [allI n]
  | k + 1 => stI l (stZ n l k) (n - 1 - k) l.length
def setsL (n : Nat) (l : List Grp) : List (List Int) := if 1 < n then stZ n l (n - 2) ++ (List.range n).map (fun (i : Nat) => [(i : Int)]) else stZ n l (n - 2)
def parI (S : List (List Int)) (i : Nat) : Nat → Int
  | 0 => -1
  | k + 1 => if comK (gl S i) (gl S k) (gl S i).length = (gl S i).length then (k : Int) else parI S i k
def nmI (names : List ByteArray) (x : List Int) : ByteArray := if x.length = 1 then gs names (gi x 0).toNat else ByteArray.empty
def setT (names : List ByteArray) (S : List (List Int)) : Tre := ⟨(List.range S.length).map fun i => parI S i i, S.map (nmI names)⟩
theorem gl_mem {S : List (List Int)} {k : Nat} (h : k < S.length) : gl S k ∈ S := by simp [gl, h]
theorem gl_ex {S : List (List Int)} {x : List Int} (h : x ∈ S) : ∃ k, k < S.length ∧ gl S k = x := by
  obtain ⟨k, hk, e⟩ := List.getElem_of_mem h
  exact ⟨k, hk, by simp [gl, hk, e]⟩
theorem knB_iff {c : Bool} {S : List (List Int)} {s : List Int} : ∀ k, knB c S s k = true ↔ c = true ∨ ∃ j, j < k ∧ gl S j = s
  | 0 => by simp [knB]
  | k + 1 => by
    rw [knB, Bool.or_eq_true, decide_eq_true_eq, knB_iff k]
    constructor
    · rintro ((h | ⟨j, h, e⟩) | h)
      · exact .inl h
      · exact .inr ⟨j, by omega, e⟩
      · exact .inr ⟨k, by omega, h⟩
    · rintro (h | ⟨j, h, e⟩)
      · exact .inl (.inl h)
      · by_cases c : j = k
        · subst c; exact .inr e
        · exact .inl (.inr ⟨j, by omega, e⟩)
theorem knB_all {S : List (List Int)} {s : List Int} {size : Nat} : knB (decide (s.length ≠ size)) S s S.length = true ↔ s.length ≠ size ∨ s ∈ S := by
  rw [knB_iff, decide_eq_true_eq]
  constructor
  · rintro (h | ⟨j, h, rfl⟩)
    · exact .inl h
    · exact .inr (gl_mem h)
  · rintro (h | h)
    · exact .inl h
    · exact .inr (gl_ex h)
theorem mem_stI {l : List Grp} {S : List (List Int)} {size : Nat} {x : List Int} : ∀ k, x ∈ stI l S size k ↔ x ∈ S ∨ ∃ i, i < k ∧ (gg l i).src = x ∧ x.length = size
  | 0 => by simp [stI]
  | k + 1 => by
    rw [stI]
    have ih := mem_stI (l := l) (S := S) (size := size) (x := x) k
    have hk := knB_all (S := stI l S size k) (s := (gg l k).src) (size := size)
    by_cases h : knB (decide ((gg l k).src.length ≠ size)) (stI l S size k) (gg l k).src (stI l S size k).length = true
    · rw [if_pos h, ih]
      constructor
      · rintro (q | ⟨i, hi, e⟩)
        · exact .inl q
        · exact .inr ⟨i, by omega, e⟩
      · rintro (q | ⟨i, hi, e, e2⟩)
        · exact .inl q
        · by_cases c : i = k
          · subst c
            rcases hk.1 h with q | q
            · rw [e] at q; exact absurd e2 q
            · rw [e] at q; exact ih.1 q
          · exact .inr ⟨i, by omega, e, e2⟩
    · rw [if_neg h, List.mem_append, ih, List.mem_singleton]
      constructor
      · rintro ((q | ⟨i, hi, e⟩) | q)
        · exact .inl q
        · exact .inr ⟨i, by omega, e⟩
        · refine .inr ⟨k, by omega, q.symm, ?_⟩
          rw [q]
          exact Classical.byContradiction fun c => h (hk.2 (.inl c))
      · rintro (q | ⟨i, hi, e, e2⟩)
        · exact .inl (.inl q)
        · by_cases c : i = k
          · subst c; exact .inr e.symm
          · exact .inl (.inr ⟨i, by omega, e, e2⟩)
theorem stI_ord {l : List Grp} {S : List (List Int)} {size : Nat} (hn : S.Nodup) (ho : S.Pairwise fun a b => b.length ≤ a.length) (hs : ∀ x ∈ S, size ≤ x.length) :
    ∀ k, (stI l S size k).Nodup ∧ (stI l S size k).Pairwise fun a b => b.length ≤ a.length
  | 0 => ⟨hn, ho⟩
  | k + 1 => by
    obtain ⟨h1, h2⟩ := stI_ord (l := l) hn ho hs k
    rw [stI]
    have hk := knB_all (S := stI l S size k) (s := (gg l k).src) (size := size)
    by_cases h : knB (decide ((gg l k).src.length ≠ size)) (stI l S size k) (gg l k).src (stI l S size k).length = true
    · rw [if_pos h]; exact ⟨h1, h2⟩
    · rw [if_neg h]
      have e1 : (gg l k).src.length = size := Classical.byContradiction fun c => h (hk.2 (.inl c))
      have e2 : (gg l k).src ∉ stI l S size k := fun c => h (hk.2 (.inr c))
      refine ⟨List.nodup_append.2 ⟨h1, by simp, fun a ha b hb e => ?_⟩, List.pairwise_append.2 ⟨h2, by simp, fun a ha b hb => ?_⟩⟩
      · rw [List.mem_singleton] at hb; subst hb; subst e; exact e2 ha
      · rw [List.mem_singleton] at hb; subst hb; rw [e1]
        rcases (mem_stI k).1 ha with q | ⟨i, _, _, q⟩
        · exact hs a q
        · omega
theorem stZ_ord {n : Nat} {l : List Grp} (h2 : 2 ≤ n) : ∀ k, k ≤ n - 2 → (stZ n l k).Nodup ∧ ((stZ n l k).Pairwise fun a b => b.length ≤ a.length) ∧ ∀ x, x ∈ stZ n l k ↔ x = allI n ∨ ∃ i, i < l.length ∧ (gg l i).src = x ∧ n - k ≤ x.length ∧ x.length < n
  | 0, _ => by
    refine ⟨by simp [stZ], by simp [stZ], fun x => ?_⟩
    rw [stZ, List.mem_singleton]
    exact ⟨.inl, fun h => h.resolve_right fun ⟨_, _, _, _, _⟩ => by omega⟩
  | k + 1, hk => by
    obtain ⟨h1, h3, h4⟩ := stZ_ord (l := l) h2 k (by omega)
    have h5 : ∀ x ∈ stZ n l k, n - 1 - k ≤ x.length := fun x hx => by
      rcases (h4 x).1 hx with rfl | ⟨_, _, _, _, _⟩
      · rw [allI_len]; omega
      · omega
    obtain ⟨g1, g2⟩ := stI_ord (l := l) h1 h3 h5 l.length
    refine ⟨g1, g2, fun x => ?_⟩
    rw [stZ, mem_stI, h4]
    constructor
    · rintro ((e | ⟨i, a, b, c, d⟩) | ⟨i, a, b, c⟩)
      · exact .inl e
      · exact .inr ⟨i, a, b, by omega, d⟩
      · exact .inr ⟨i, a, b, by omega, by omega⟩
    · rintro (e | ⟨i, a, b, c, d⟩)
      · exact .inl (.inl e)
      · by_cases q : n - k ≤ x.length
        · exact .inl (.inr ⟨i, a, b, q, d⟩)
        · exact .inr ⟨i, a, b, by omega⟩
structure SetsOk (n : Nat) (S : List (List Int)) : Prop where
  asc : ∀ x ∈ S, x.Pairwise (· < ·) ∧ x ≠ [] ∧ ∀ y ∈ x, 0 ≤ y ∧ y < (n : Int)
  lam : ∀ x ∈ S, ∀ y ∈ S, (∀ z ∈ x, z ∈ y) ∨ (∀ z ∈ y, z ∈ x) ∨ ∀ z ∈ x, z ∉ y
  nd : S.Nodup
  ord : S.Pairwise fun a b => b.length ≤ a.length
  pos : 0 < S.length
  top : gl S 0 = allI n
  sing : ∀ i, i < n → [(i : Int)] ∈ S
theorem asc_eq {x y : List Int} (hx : x.Pairwise (· < ·)) (hy : y.Pairwise (· < ·)) (h1 : ∀ z ∈ x, z ∈ y) (h2 : ∀ z ∈ y, z ∈ x) : x = y := by
  have nd : ∀ {q : List Int}, q.Pairwise (· < ·) → q.Nodup := fun h => h.imp fun h => by omega
  have hp : x.Perm y := (List.perm_ext_iff_of_nodup (nd hx) (nd hy)).2 fun z => ⟨h1 z, h2 z⟩
  exact List.Perm.eq_of_pairwise (le := fun a b : Int => a < b) (fun a b _ _ h1 h2 => by omega) hx hy hp
theorem perm_subI : ∀ {p q : List Int}, p.Nodup → (∀ x ∈ p, x ∈ q) → q.length ≤ p.length → p.Perm q
  | [], q, _, _, h => by
    have : q = [] := List.eq_nil_of_length_eq_zero (by simpa using h)
    rw [this]
  | x :: p, q, hn, hs, hl => by
    rw [List.nodup_cons] at hn
    have hx := hs x (by simp)
    obtain ⟨a, b, rfl⟩ := List.append_of_mem hx
    have h1 : p.Perm (a ++ b) := perm_subI hn.2 (fun y hy => by
      have h2 := hs y (by simp [hy])
      rw [List.mem_append, List.mem_cons] at h2
      rw [List.mem_append]
      rcases h2 with h2 | h2 | h2
      · exact .inl h2
      · exact absurd (by rw [← h2]; exact hy) hn.1
      · exact .inr h2) (by
      rw [List.length_append, List.length_cons, List.length_cons] at hl
      rw [List.length_append]; omega)
    exact (h1.cons x).trans List.perm_middle.symm
theorem com_sub {a b : List Int} : comK a b a.length = a.length ↔ ∀ x ∈ a, x ∈ b := by
  have key : ∀ k, k ≤ a.length → (comK a b k = k ↔ ∀ j, j < k → gi a j ∈ b) := by
    intro k
    induction k with
    | zero => intro _; exact ⟨fun _ j hj => by omega, fun _ => rfl⟩
    | succ k ih =>
      intro hk
      have h1 := ih (by omega)
      have h2 := comK_le a b k
      rw [comK]
      constructor
      · intro h j hj
        by_cases c : gi a k ∈ b
        · rw [if_pos c] at h
          by_cases e : j = k
          · subst e; exact c
          · exact h1.1 (by omega) j (by omega)
        · rw [if_neg c] at h; omega
      · intro h
        rw [if_pos (h k (by omega)), h1.2 fun j hj => h j (by omega)]
  rw [key _ (Nat.le_refl _)]
  constructor
  · intro h x hx
    obtain ⟨j, hj, e⟩ := List.getElem_of_mem hx
    have := h j hj
    rw [show gi a j = x by simp [gi, hj, e]] at this
    exact this
  · intro h j hj; exact h _ (gi_mem hj)
section
variable {n : Nat} {S : List (List Int)}
def SubAt (S : List (List Int)) (i j : Nat) : Prop := ∀ x ∈ gl S i, x ∈ gl S j
theorem SetsOk.at_eq (h : SetsOk n S) {i j : Nat} (hi : i < S.length) (hj : j < S.length) (e : gl S i = gl S j) : i = j := by
  have hn := List.pairwise_iff_getElem.1 h.nd
  have e1 : S[i] = S[j] := by simpa [gl, hi, hj] using e
  rcases Nat.lt_trichotomy i j with c | c | c
  · exact absurd e1 (hn i j hi hj c)
  · exact c
  · exact absurd e1.symm (hn j i hj hi c)
theorem SetsOk.eq_of (h : SetsOk n S) {i j : Nat} (hi : i < S.length) (hj : j < S.length) (h1 : SubAt S i j) (h2 : SubAt S j i) : i = j :=
  h.at_eq hi hj (asc_eq (h.asc _ (gl_mem hi)).1 (h.asc _ (gl_mem hj)).1 h1 h2)
theorem SetsOk.le_len (h : SetsOk n S) {i j : Nat} (hj : j < S.length) (hij : i < j) : (gl S j).length ≤ (gl S i).length := by
  have hi : i < S.length := by omega
  have := List.pairwise_iff_getElem.1 h.ord i j hi hj hij
  simpa [gl, hi, hj] using this
theorem SetsOk.lt_of (h : SetsOk n S) {i j : Nat} (hi : i < S.length) (hj : j < S.length) (h1 : SubAt S j i) (hne : i ≠ j) : i < j := by
  apply Classical.byContradiction
  intro c
  have hji : j < i := by omega
  have hl := h.le_len hi hji
  have nd : (gl S j).Nodup := (h.asc _ (gl_mem hj)).1.imp fun h => by omega
  have hp := perm_subI nd h1 hl
  exact hne (h.eq_of hi hj (fun x hx => hp.mem_iff.2 hx) h1)
theorem SetsOk.sub_top (h : SetsOk n S) {i : Nat} (hi : i < S.length) : SubAt S i 0 := fun x hx => by
  rw [h.top, mem_allI]; exact (h.asc _ (gl_mem hi)).2.2 x hx
theorem parI_spec (S : List (List Int)) (i : Nat) : ∀ k, (parI S i k = -1 ∧ ∀ j, j < k → ¬ SubAt S i j) ∨ ∃ p, p < k ∧ parI S i k = (p : Int) ∧ SubAt S i p ∧ ∀ j, p < j → j < k → ¬ SubAt S i j
  | 0 => .inl ⟨rfl, fun j hj => by omega⟩
  | k + 1 => by
    rw [parI]
    by_cases c : SubAt S i k
    · rw [if_pos (com_sub.2 c)]
      exact .inr ⟨k, by omega, rfl, c, fun j h1 h2 => by omega⟩
    · rw [if_neg fun q => c (com_sub.1 q)]
      rcases parI_spec S i k with ⟨e, h⟩ | ⟨p, h1, h2, h3, h4⟩
      · refine .inl ⟨e, fun j hj => ?_⟩
        by_cases q : j = k
        · subst q; exact c
        · exact h j (by omega)
      · refine .inr ⟨p, by omega, h2, h3, fun j hj1 hj2 => ?_⟩
        by_cases q : j = k
        · subst q; exact c
        · exact h4 j hj1 (by omega)
theorem SetsOk.par (h : SetsOk n S) {i : Nat} (hi : i < S.length) (h0 : 0 < i) : ∃ p, p < i ∧ parI S i i = (p : Int) ∧ SubAt S i p ∧ ∀ j, j < S.length → j ≠ i → SubAt S i j → j ≤ p := by
  rcases parI_spec S i i with ⟨_, q⟩ | ⟨p, h1, h2, h3, h4⟩
  · exact absurd (h.sub_top hi) (q 0 h0)
  · refine ⟨p, h1, h2, h3, fun j hj hne hs => ?_⟩
    have := h.lt_of hj hi hs hne
    exact Classical.byContradiction fun c => h4 j (by omega) this hs
theorem SetsOk.meet (h : SetsOk n S) {i : Nat} (hi : i < S.length) : ∃ x, x ∈ gl S i := List.exists_mem_of_ne_nil _ (h.asc _ (gl_mem hi)).2.1
/-- A set within another, and not it, lies within a child of it. -/
theorem SetsOk.kid (h : SetsOk n S) {i : Nat} (hi : i < S.length) : ∀ (d p : Nat), p ≤ d → p < S.length → p ≠ i → SubAt S p i → ∃ c, c < S.length ∧ i < c ∧ parI S c c = (i : Int) ∧ SubAt S p c
  | 0, p, hd, hp, hne, hs => by have := h.lt_of hi hp hs (Ne.symm hne); omega
  | d + 1, p, hd, hp, hne, hs => by
    have hlt := h.lt_of hi hp hs (Ne.symm hne)
    obtain ⟨q, q1, q2, q3, q4⟩ := h.par hp (by omega)
    by_cases c : q = i
    · subst c; exact ⟨p, hp, hlt, q2, fun x hx => hx⟩
    · have hiq := q4 i hi (by omega) hs
      have hqi : SubAt S q i := by
        obtain ⟨x, hx⟩ := h.meet hp
        rcases h.lam _ (gl_mem (show q < S.length by omega)) _ (gl_mem hi) with e | e | e
        · exact e
        · have := h.lt_of (show q < S.length by omega) hi e c
          omega
        · exact absurd (hs x hx) (e x (q3 x hx))
      obtain ⟨k, k1, k2, k3, k4⟩ := SetsOk.kid h hi d q (by omega) (by omega) c hqi
      exact ⟨k, k1, k2, k3, fun x hx => k4 x (q3 x hx)⟩
/-- Each source of a greater set lies in a child. -/
theorem SetsOk.kid_of (h : SetsOk n S) {i : Nat} (hi : i < S.length) (h2 : (gl S i).length ≠ 1) {x : Int} (hx : x ∈ gl S i) : ∃ c, c < S.length ∧ i < c ∧ parI S c c = (i : Int) ∧ x ∈ gl S c := by
  obtain ⟨x0, xn⟩ := (h.asc _ (gl_mem hi)).2.2 x hx
  obtain ⟨k, rfl⟩ : ∃ k : Nat, x = k := ⟨x.toNat, by omega⟩
  obtain ⟨p, hp, e⟩ := gl_ex (h.sing k (by omega))
  have hne : p ≠ i := fun q => by subst q; rw [e] at h2; exact h2 rfl
  obtain ⟨c, c1, c2, c3, c4⟩ := h.kid hi p p (Nat.le_refl _) hp hne (fun y hy => by rw [e, List.mem_singleton] at hy; subst hy; exact hx)
  exact ⟨c, c1, c2, c3, c4 _ (by rw [e]; simp)⟩
theorem SetsOk.kid_sub (h : SetsOk n S) {i c : Nat} (hc : c < S.length) (h0 : 0 < c) (e : parI S c c = (i : Int)) : SubAt S c i ∧ i < c := by
  obtain ⟨p, p1, p2, p3, _⟩ := h.par hc h0
  rw [e] at p2
  have : i = p := by omega
  subst this; exact ⟨p3, p1⟩
end
end Go.Proofs.YtcbmbhghmfehpaaGreat
